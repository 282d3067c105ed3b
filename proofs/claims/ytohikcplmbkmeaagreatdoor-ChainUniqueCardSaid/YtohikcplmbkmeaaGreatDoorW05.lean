/- Parts of a proof, one behind the other: D3, D4, W2, Shelf, W6, Z8, D5, D6, D7, F1, F2, F3, F4. -/
import Derived.Test.YtohikcplmbkmeaaGreatDoorW04
open Prod.mk renaming injEq → a₀
open List renaming length_drop → a₁,length_singleton → a₃,drop_eq_getElem_cons → a₄,length_append → a₆,take_of_length_le → a₇,drop_zero → a₉,drop_length → b₂,take_succ_eq_append_getElem → b₆,getElem_mem → b₇,all_append → b₉,nil_append → c₁,getElem?_eq_some_iff → c₃,length_take → c₆,length_map → c₇,drop_eq_nil_of_le → c₈,getElem_cons_zero → c₉,take_append_drop → d₀,mem_singleton → d₁,take_length → d₂,length_set → d₃
open And renaming intro → a₂
open Nat renaming zero_add → a₅,zero_le → a₈,mul_le_mul_right → b₃,lt_or_ge → b₅,mod_eq_of_lt → b₈,le_of_eq → c₀,le_refl → c₂,pow_succ → c₅
open Bool renaming false_eq_true → b₀,false_and → b₁,true_and → b₄,and_eq_true → c₄
set_option maxRecDepth 20000
set_option maxHeartbeats 16000000
set_option linter.unusedVariables false
set_option linter.unusedSimpArgs false
namespace Go.Proofs.YtohikcplmbkmeaaGreatDoor
open Go.RowKit
section
mutual
theorem gz {σ:Nat→Option Nat} {fz:Fz}: ∀(m:MV),m.idFree=true→eu σ fz m m
 | .st l,h=> .inl ⟨rfl,h⟩
 | .fn f l,h=> .inl ⟨rfl,h⟩
 | .ifc t v,h=> .inl ⟨rfl,h⟩
 | .sl ..,_=> .inl rfl
 | .ep ..,_=> .inl rfl
 | .ptr ..,h=>by cases h
 | .ms ..,h=>by cases h
 | .tup ..,h=>by cases h
 | .undef,h=>by cases h
 | .int ..,_=>⟨rfl,rfl⟩
 | .bool ..,_=>⟨rfl,rfl⟩
 | .str ..,_=>⟨rfl,rfl⟩
 | .nilp,_=>⟨rfl,rfl⟩
 | .gp ..,_=>⟨rfl,rfl⟩
 | .nils,_=>⟨rfl,rfl⟩
 | .nilf,_=>⟨rfl,rfl⟩
 | .nili,_=>⟨rfl,rfl⟩
 | .arr ..,_=>⟨rfl,rfl⟩
theorem bd {σ:Nat→Option Nat} {fz:Fz}: ∀(l:List MV),MV.idFrees l=true→eu.relVs σ fz l l
 | [],_=>trivial
 | m :: l,h=>by
  simp only [MV.idFrees,c₄] at h
  exact⟨gz m h.1,bd l h.2⟩
end
section
variable {Pg:Program} {T:bB} {N:Nat} {ents:List FuncId} {G:GS} {ops:Array Oper} {d:Tmp} {ty:TypeId} {pos:String} {after:Array Edge} {g:Option (Nat×Bool)} {rest:List Oper} {K:VK} {E:VE} {M:VM} {n:Nat} {f:Operand} {args:Array Operand} {ats:Array TypeId} {f0:FuncId} {vs:List MV} {res:MV}
theorem ah (hd:Nat.blt d N=true) (h1: ∀R:FuncId×List MV→Prop,R (f0,vs)→(dX E f args.toList).runP R) (h2:ents.contains f0=true) (hc:aQ Pg G f0 vs [] 0 res [] 0) (hf:dM res=true) (hi:MV.idFrees vs=true)
  (h:ak Pg T N ents G ops rest K ((d,res) :: E) M n):aB Pg T N ents G ops ⟨some d, .call ⟨.value f,args,ats⟩,ty,pos,after,g⟩ rest K E M n:=
 sC hd h1 h2 hc hf (bd vs hi) h
end
variable {G:GS}
attribute [local irreducible] ak aB aD aI aN vC aW aw
def eR (s:List UInt8) (i:Nat):Bool:=decide (i < s.length) && (decide (128≤(s.getD i 0).toNat) && decide ((s.getD i 0).toNat < 192))
theorem pM {s:List UInt8} {i:Nat} (h:i < s.length):yE s (i:Int)=some (s.getD i 0):=by
 unfold yE;rw [if_pos om];simp [h]
theorem Ke {s:List UInt8} {j:Int} (i:Nat) (hj:j=i) (h:i < s.length):yE s j=some (s.getD i 0):=by
 subst hj;exact pM h
theorem uo (s:List UInt8) (i:Nat) (hs:s.length < 1000000000):aE Tryz.prog G 270 [.str s, .int .i64 i] (.bool (eR s i)):=by
 unfold eR;by_cases hi:i < s.length
 ·have f1:=aj.mk (pM hi);generalize s.getD i 0=c at *;rw [decide_eq_true hi,b₄];by_cases h1:128≤c.toNat
  ·rw [decide_eq_true h1,b₄];refine bA seat Tryz.func270 21 ?_;(iterate 3 ((all_goals(refine aa ?_));(all_goals(first | ((first | refine ag rfl rfl ?_ rfl ?_ | refine ad rfl ?_ ?_);all_goals(intro h;(try simp only [pl] at h);(try (exfalso;omega)))) | skip))));all_goals first | (exfalso;omega) | (refine au ?_;first | rfl | exact congrArg MV.bool (decide_eq_decide.2 (by omega)))
  ·rw [decide_eq_false h1,b₁];refine bA seat Tryz.func270 21 ?_;(iterate 3 ((all_goals(refine aa ?_));(all_goals(first | ((first | refine ag rfl rfl ?_ rfl ?_ | refine ad rfl ?_ ?_);all_goals(intro h;(try simp only [pl] at h);(try (exfalso;omega)))) | skip))));all_goals first | (exfalso;omega) | (refine au ?_;first | rfl | exact congrArg MV.bool (decide_eq_decide.2 (by omega)))
 ·rw [decide_eq_false hi,b₁];refine bA seat Tryz.func270 21 ?_;(iterate 3 ((all_goals(refine aa ?_));(all_goals(first | ((first | refine ag rfl rfl ?_ rfl ?_ | refine ad rfl ?_ ?_);all_goals(intro h;(try simp only [pl] at h);(try (exfalso;omega)))) | skip))));all_goals first | (exfalso;omega) | (refine au ?_;first | rfl | exact congrArg MV.bool (decide_eq_decide.2 (by omega)))
def mr (s:List UInt8) (i:Nat):Nat:=
 if (s.getD i 0).toNat < 128 then 1 else
 if 194≤(s.getD i 0).toNat∧(s.getD i 0).toNat < 224∧eR s (i + 1)=true then 2 else
 if 224≤(s.getD i 0).toNat∧(s.getD i 0).toNat < 240∧eR s (i + 1)=true∧eR s (i + 2)=true then
  (if (s.getD i 0).toNat=224∧(s.getD (i + 1) 0).toNat < 160∨(s.getD i 0).toNat=237∧160≤(s.getD (i + 1) 0).toNat then 0 else 3) else
 if 240≤(s.getD i 0).toNat∧(s.getD i 0).toNat < 245∧eR s (i + 1)=true∧eR s (i + 2)=true∧eR s (i + 3)=true then
  (if (s.getD i 0).toNat=240∧(s.getD (i + 1) 0).toNat < 144∨(s.getD i 0).toNat=244∧144≤(s.getD (i + 1) 0).toNat then 0 else 4) else 0
theorem BN {s:List UInt8} {i:Nat} (h:eR s i=true):i < s.length:=by
 unfold eR at h;rw [c₄] at h;exact ot h.1
theorem Mb (s:List UInt8) (i:Nat) (hs:s.length < 1000000000) (hi:i < s.length):aE Tryz.prog G 239 [.str s, .int .i64 i] (.int .i64 (mr s i)):=by
 have f0:=aj.mk (pM hi);have c1:aE Tryz.prog G 270 [.str s, .int .i64 ((i:Int) + 1)] _:=uo s (i + 1) hs;have c2:aE Tryz.prog G 270 [.str s, .int .i64 ((i:Int) + 2)] _:=uo s (i + 2) hs;have c3:aE Tryz.prog G 270 [.str s, .int .i64 ((i:Int) + 3)] _:=uo s (i + 3) hs;generalize hr:mr s i=r;unfold mr at hr;have l1:=BN (s:=s) (i:=i + 1);have f1:i + 1 < s.length→yE s ((i:Int) + 1)=some (s.getD (i + 1) 0):=fun h=>Ke (i + 1) om h
 generalize s.getD i 0=x at *;generalize s.getD (i + 1) 0=y at *;generalize eR s (i + 1)=b1 at *;generalize eR s (i + 2)=b2 at *;generalize eR s (i + 3)=b3 at *;rcases b₅ x.toNat 128 with g1 | g1
 ·
  clear l1 f1;refine bA seat Tryz.func239 109 ?_;(iterate 12 ((all_goals(refine aa ?_));(all_goals(first | (refine ah rfl aA rfl (src (c1)) rfl rfl ?_) | (refine ah rfl aA rfl (src (c2)) rfl rfl ?_) | (refine ah rfl aA rfl (src (c3)) rfl rfl ?_) | ((first | refine ag rfl rfl ?_ rfl ?_ | refine ad rfl ?_ ?_);all_goals(intro h;(try simp only [pl] at h);(try (exfalso;omega)))) | skip))));refine au ?_;exact congrArg (MV.int .i64) (by subst hr;(repeat(first | rw [if_pos (by omega)] | rw [if_neg (by omega)]));first | rfl | omega)
 rcases b₅ x.toNat 194 with g2 | g2
 ·
  clear l1 f1;refine bA seat Tryz.func239 109 ?_;(iterate 12 ((all_goals(refine aa ?_));(all_goals(first | (refine ah rfl aA rfl (src (c1)) rfl rfl ?_) | (refine ah rfl aA rfl (src (c2)) rfl rfl ?_) | (refine ah rfl aA rfl (src (c3)) rfl rfl ?_) | ((first | refine ag rfl rfl ?_ rfl ?_ | refine ad rfl ?_ ?_);all_goals(intro h;(try simp only [pl] at h);(try (exfalso;omega)))) | skip))));refine au ?_;exact congrArg (MV.int .i64) (by subst hr;(repeat(first | rw [if_pos (by omega)] | rw [if_neg (by omega)]));first | rfl | omega)
 rcases b₅ x.toNat 224 with g3 | g3
 ·cases b1 with
  | false=>
   simp only [b₀,and_false,and_true,false_and,true_and,if_false] at hr;clear l1 f1;refine bA seat Tryz.func239 109 ?_;(iterate 12 ((all_goals(refine aa ?_));(all_goals(first | (refine ah rfl aA rfl (src (c1)) rfl rfl ?_) | (refine ah rfl aA rfl (src (c2)) rfl rfl ?_) | (refine ah rfl aA rfl (src (c3)) rfl rfl ?_) | ((first | refine ag rfl rfl ?_ rfl ?_ | refine ad rfl ?_ ?_);all_goals(intro h;(try simp only [pl] at h);(try (exfalso;omega)))) | skip))));refine au ?_;exact congrArg (MV.int .i64) (by subst hr;(repeat(first | rw [if_pos (by omega)] | rw [if_neg (by omega)]));first | rfl | omega)
  | true=>
   rw [if_neg om,if_pos ⟨om,om,rfl⟩] at hr;clear l1 f1;refine bA seat Tryz.func239 109 ?_;(iterate 12 ((all_goals(refine aa ?_));(all_goals(first | (refine ah rfl aA rfl (src (c1)) rfl rfl ?_) | (refine ah rfl aA rfl (src (c2)) rfl rfl ?_) | (refine ah rfl aA rfl (src (c3)) rfl rfl ?_) | ((first | refine ag rfl rfl ?_ rfl ?_ | refine ad rfl ?_ ?_);all_goals(intro h;(try simp only [pl] at h);(try (exfalso;omega)))) | skip))));refine au ?_;exact congrArg (MV.int .i64) (by subst hr;(repeat(first | rw [if_pos (by omega)] | rw [if_neg (by omega)]));first | rfl | omega)
 rw [if_neg om,if_neg om] at hr;rcases b₅ x.toNat 240 with g4 | g4
 ·cases b1 with
  | false=>
   simp only [b₀,and_false,and_true,false_and,true_and,if_false] at hr;clear l1 f1;refine bA seat Tryz.func239 109 ?_;(iterate 12 ((all_goals(refine aa ?_));(all_goals(first | (refine ah rfl aA rfl (src (c1)) rfl rfl ?_) | (refine ah rfl aA rfl (src (c2)) rfl rfl ?_) | (refine ah rfl aA rfl (src (c3)) rfl rfl ?_) | ((first | refine ag rfl rfl ?_ rfl ?_ | refine ad rfl ?_ ?_);all_goals(intro h;(try simp only [pl] at h);(try (exfalso;omega)))) | skip))));refine au ?_;exact congrArg (MV.int .i64) (by subst hr;(repeat(first | rw [if_pos (by omega)] | rw [if_neg (by omega)]));first | rfl | omega)
  | true=>
   cases b2 with
   | false=>
    simp only [b₀,and_false,and_true,false_and,true_and,if_false] at hr;clear l1 f1;refine bA seat Tryz.func239 109 ?_;(iterate 12 ((all_goals(refine aa ?_));(all_goals(first | (refine ah rfl aA rfl (src (c1)) rfl rfl ?_) | (refine ah rfl aA rfl (src (c2)) rfl rfl ?_) | (refine ah rfl aA rfl (src (c3)) rfl rfl ?_) | ((first | refine ag rfl rfl ?_ rfl ?_ | refine ad rfl ?_ ?_);all_goals(intro h;(try simp only [pl] at h);(try (exfalso;omega)))) | skip))));refine au ?_;exact congrArg (MV.int .i64) (by subst hr;(repeat(first | rw [if_pos (by omega)] | rw [if_neg (by omega)]));first | rfl | omega)
   | true=>
    have f1:=aj.mk (f1 (l1 rfl));rw [if_pos ⟨om,om,rfl,rfl⟩] at hr;refine bA seat Tryz.func239 109 ?_;(iterate 20 ((all_goals(refine aa ?_));(all_goals(first | (refine ah rfl aA rfl (src (c1)) rfl rfl ?_) | (refine ah rfl aA rfl (src (c2)) rfl rfl ?_) | (refine ah rfl aA rfl (src (c3)) rfl rfl ?_) | ((first | refine ag rfl rfl ?_ rfl ?_ | refine ad rfl ?_ ?_);all_goals(intro h;(try simp only [pl] at h);(try (exfalso;omega)))) | skip))));all_goals(refine au ?_;exact congrArg (MV.int .i64) (by subst hr;(repeat(first | rw [if_pos (by omega)] | rw [if_neg (by omega)]));first | rfl | omega))
 rw [if_neg om] at hr;rcases b₅ x.toNat 245 with g5 | g5
 ·cases b1 with
  | false=>
   simp only [b₀,and_false,and_true,false_and,true_and,if_false] at hr;clear l1 f1;refine bA seat Tryz.func239 109 ?_;(iterate 12 ((all_goals(refine aa ?_));(all_goals(first | (refine ah rfl aA rfl (src (c1)) rfl rfl ?_) | (refine ah rfl aA rfl (src (c2)) rfl rfl ?_) | (refine ah rfl aA rfl (src (c3)) rfl rfl ?_) | ((first | refine ag rfl rfl ?_ rfl ?_ | refine ad rfl ?_ ?_);all_goals(intro h;(try simp only [pl] at h);(try (exfalso;omega)))) | skip))));refine au ?_;exact congrArg (MV.int .i64) (by subst hr;(repeat(first | rw [if_pos (by omega)] | rw [if_neg (by omega)]));first | rfl | omega)
  | true=>
   cases b2 with
   | false=>
    simp only [b₀,and_false,and_true,false_and,true_and,if_false] at hr;clear l1 f1;refine bA seat Tryz.func239 109 ?_;(iterate 12 ((all_goals(refine aa ?_));(all_goals(first | (refine ah rfl aA rfl (src (c1)) rfl rfl ?_) | (refine ah rfl aA rfl (src (c2)) rfl rfl ?_) | (refine ah rfl aA rfl (src (c3)) rfl rfl ?_) | ((first | refine ag rfl rfl ?_ rfl ?_ | refine ad rfl ?_ ?_);all_goals(intro h;(try simp only [pl] at h);(try (exfalso;omega)))) | skip))));refine au ?_;exact congrArg (MV.int .i64) (by subst hr;(repeat(first | rw [if_pos (by omega)] | rw [if_neg (by omega)]));first | rfl | omega)
   | true=>
    cases b3 with
    | false=>
     simp only [b₀,and_false,and_true,false_and,true_and,if_false] at hr;clear l1 f1;refine bA seat Tryz.func239 109 ?_;(iterate 12 ((all_goals(refine aa ?_));(all_goals(first | (refine ah rfl aA rfl (src (c1)) rfl rfl ?_) | (refine ah rfl aA rfl (src (c2)) rfl rfl ?_) | (refine ah rfl aA rfl (src (c3)) rfl rfl ?_) | ((first | refine ag rfl rfl ?_ rfl ?_ | refine ad rfl ?_ ?_);all_goals(intro h;(try simp only [pl] at h);(try (exfalso;omega)))) | skip))));refine au ?_;exact congrArg (MV.int .i64) (by subst hr;(repeat(first | rw [if_pos (by omega)] | rw [if_neg (by omega)]));first | rfl | omega)
    | true=>
     have f1:=aj.mk (f1 (l1 rfl));rw [if_pos ⟨om,om,rfl,rfl,rfl⟩] at hr;refine bA seat Tryz.func239 109 ?_;(iterate 24 ((all_goals(refine aa ?_));(all_goals(first | (refine ah rfl aA rfl (src (c1)) rfl rfl ?_) | (refine ah rfl aA rfl (src (c2)) rfl rfl ?_) | (refine ah rfl aA rfl (src (c3)) rfl rfl ?_) | ((first | refine ag rfl rfl ?_ rfl ?_ | refine ad rfl ?_ ?_);all_goals(intro h;(try simp only [pl] at h);(try (exfalso;omega)))) | skip))));all_goals(refine au ?_;exact congrArg (MV.int .i64) (by subst hr;(repeat(first | rw [if_pos (by omega)] | rw [if_neg (by omega)]));first | rfl | omega))
 ·rw [if_neg om] at hr;clear l1 f1;refine bA seat Tryz.func239 109 ?_;(iterate 12 ((all_goals(refine aa ?_));(all_goals(first | (refine ah rfl aA rfl (src (c1)) rfl rfl ?_) | (refine ah rfl aA rfl (src (c2)) rfl rfl ?_) | (refine ah rfl aA rfl (src (c3)) rfl rfl ?_) | ((first | refine ag rfl rfl ?_ rfl ?_ | refine ad rfl ?_ ?_);all_goals(intro h;(try simp only [pl] at h);(try (exfalso;omega)))) | skip))));refine au ?_;exact congrArg (MV.int .i64) (by subst hr;(repeat(first | rw [if_pos (by omega)] | rw [if_neg (by omega)]));first | rfl | omega)
end
section
variable {G:GS}
attribute [local irreducible] ak aB aD aI aN vC aW aw
def js:Nat→List UInt8→Nat→Nat→Nat×Bool
 | 0,_,_,n=>(n,true)
 | f + 1,s,i,n=>if i < s.length then(if mr s i=0 then(0,false) else js f s (i + mr s i) (n + 1)) else(n,true)
def mw (s:List UInt8):Nat×Bool:=js s.length s 0 0
def rR (s:List UInt8):Bool:=(mw s).2 && decide ((mw s).1≤64)
theorem zW (s:List UInt8) (i:Nat):mr s i≤4:=by
 unfold mr
 repeat' split
 all_goals omega
theorem Kf (s:List UInt8) (hs:s.length < 500000000):aE Tryz.prog G 178 [.str s] (.tup [.int .i64 (mw s).1, .bool (mw s).2]):=by
  generalize hr:mw s=r;unfold mw at hr;obtain⟨r1,r2⟩:=r;dsimp only;refine bA seat Tryz.func178 22 ?_;refine aa ?_;refine av (Nat×Nat×Nat) (fun x=> [(5, .int .i64 x.2.1),(4, .int .i64 x.2.2),(0, .str s)]) (fun _=> []) 0 (fun x=>js x.1 s x.2.1 x.2.2=(r1,r2)∧s.length≤x.2.1 + x.1∧x.2.1≤s.length + 4∧x.2.2 + x.1≤s.length) (fun x=>x.1) (s.length,0,0) ⟨hr,dm,dm,dm⟩ (by dsimp only;exact(vm [] [])) ?_;rintro⟨f,i,n⟩ ⟨hR,h1,h2,h3⟩;try dsimp only
  dsimp only at hR h1 h2 h3;refine aa ?_;refine ad rfl ?_ ?_ <;> intro h
  · have hi:i < s.length:=by have:=ot h;omega
    have c1:=Mb (G:=G) s i om hi;have hk:=zW s i
    match f,hR,h1,h3 with
    | 0,hR,h1,h3=>exfalso;omega
    | f + 1,hR,h1,h3=>
    rw [js,if_pos hi] at hR;generalize mr s i=k at *;refine aa ?_;refine dL (c1) ?_;refine ad rfl ?_ ?_ <;> intro h
    · have hk0:k=0:=by
        have:(k:Int)=0:=by simpa using h
        omega
      rw [if_pos hk0] at hR;simp only [a₀] at hR;obtain⟨rfl,rfl⟩:=hR;refine aa ?_;refine au ?_;rfl
    · have hk0:k≠0:=by
        have: ¬ (k:Int)=0:=by simpa using h
        omega
      rw [if_neg hk0] at hR;refine aa ?_;exact⟨(f,i + k,n + 1),⟨hR,dm,dm,dm⟩,by show f < f + 1;omega,(by dsimp only;exact(vm [] []))⟩
  · have hi: ¬ i < s.length:=by have:=oF h;omega
    have:js f s i n=(n,true):=by cases f with | zero=>rfl | succ f=>rw [js,if_neg hi]
    rw [this] at hR;simp only [a₀] at hR;obtain⟨rfl,rfl⟩:=hR;refine aa ?_;refine au ?_;rfl
theorem Mc (s:List UInt8) (hs:s.length < 500000000):aE Tryz.prog G 120 [.str s] (.bool (rR s)):=by
 have c1:=Kf (G:=G) s hs;unfold rR;generalize mw s=r at *;obtain⟨n,ok⟩:=r;dsimp only at c1 ⊢;cases ok with
 | true=>
  refine bA seat Tryz.func120 15 ?_;refine aa ?_;refine dL (c1) ?_;refine au ?_;exact congrArg MV.bool (decide_eq_decide.2 om)
 | false=>
  refine bA seat Tryz.func120 15 ?_;refine aa ?_;refine dL (c1) ?_;refine au ?_;rfl
def my (c:UInt8):Bool:=decide (97≤c.toNat∧c.toNat≤122∨48≤c.toNat∧c.toNat≤57∨c.toNat=45)
def dS (s:List UInt8):Bool:=s.all my && decide (1≤s.length∧s.length≤20)
theorem xM (s:List UInt8) (hs:s.length≤140737488355328):aE Tryz.prog G 79 [.str s] (.bool (dS s)):=by
 generalize hr:dS s=r;unfold dS at hr;refine bA seat Tryz.func79 41 ?_;refine aa ?_;refine av Nat (fun i=> [(3, .int .i64 i),(0, .str s)]) (fun _=> []) 0 (fun i=>i≤s.length∧(s.take i).all my=true) (fun i=>s.length - i) 0 ⟨a₈ _,sm⟩ (vm [] []) ?_;rintro i ⟨hi,hp⟩;try dsimp only
 refine aa ?_;refine ad rfl ?_ ?_ <;> intro h
 ·have hi':i < s.length:=by have:=ot h;omega
  have f0:=aj.mk (pM hi');have hsu:(s.take (i + 1)).all my=((s.take i).all my && my (s.getD i 0)):=by
   rw [b₆ hi',b₉];simp [hi']
  have hall:my (s.getD i 0)=false→s.all my=false:=fun h=>by
   rw [← d₀ (i + 1) s,b₉,hsu,h];simp
  generalize s.getD i 0=c at *;by_cases hc:my c=true
  ·rw [hp,hc] at hsu;have hc':=ot hc;(iterate 6 ((all_goals(refine aa ?_));(all_goals(first | ((first | refine ag rfl rfl ?_ rfl ?_ | refine ad rfl ?_ ?_);all_goals(intro h;(try simp only [pl] at h);(try (exfalso;omega)))) | skip))));all_goals exact⟨i + 1,⟨by omega,by rw [hsu];rfl⟩,by show s.length - (i + 1) < s.length - i;omega,(by dsimp only;exact(vm [] []))⟩
  ·have hcf:my c=false:=by simpa using hc
   rw [hall hcf,b₁] at hr;subst hr;have hc':=oF hcf;(iterate 6 ((all_goals(refine aa ?_));(all_goals(first | ((first | refine ag rfl rfl ?_ rfl ?_ | refine ad rfl ?_ ?_);all_goals(intro h;(try simp only [pl] at h);(try (exfalso;omega)))) | skip))));all_goals(refine au ?_;rfl)
 ·have hi':i=s.length:=by have:=oF h;omega
  subst hi';rw [d₂] at hp;rw [hp,b₄] at hr;subst hr;(iterate 3 ((all_goals(refine aa ?_));(all_goals(first | ((first | refine ag rfl rfl ?_ rfl ?_ | refine ad rfl ?_ ?_);all_goals(intro h;(try simp only [pl] at h);(try (exfalso;omega)))) | skip))));all_goals(refine au ?_;exact congrArg MV.bool (by first | exact decide_eq_decide.2 (by omega) | exact(decide_eq_false (by omega)).symm))
def uq:List lh→Nat
 | [] =>0
 | x :: r=>if dS x.to_=false then 10 else if x.amt=0 then 12 else uq r
def dG (t:je):Nat:=if dS t.sender=false then 10 else if t.gas=0 then 15 else if rR t.memo=false then 11 else if t.trs.length=0∨16 < t.trs.length then 3 else uq t.trs
theorem wk (t:je) (ht:iL t):aE Tryz.prog G 71 [nP t] (.int .i64 (dG t)):=by
 obtain⟨sender,seq,gas,fee,memo,trs⟩:=t;obtain⟨h1,h2,h3,h4,h5,h6,h7⟩:=ht;dsimp only at h1 h2 h3 h4 h5 h6 h7;have c1:=xM (G:=G) sender om;have c2:=Mc (G:=G) memo om;generalize hr:dG _=r;unfold dG at hr;unfold nP;dsimp only at hr ⊢;generalize dS sender=b1 at *;generalize rR memo=b2 at *;cases b1 with
 | false=>
  rw [if_pos rfl] at hr;subst hr;refine bA seat Tryz.func71 45 ?_;(iterate 2 ((all_goals(refine aa ?_));(all_goals(first | (refine ah rfl aA rfl (src (c1)) rfl rfl ?_) | ((first | refine ag rfl rfl ?_ rfl ?_ | refine ad rfl ?_ ?_);all_goals(intro h;(try simp only [pl] at h);(try (exfalso;omega)))) | skip))));refine au ?_;rfl
 | true=>
 rw [if_neg sm] at hr;by_cases hg:gas=0
 ·rw [if_pos hg] at hr;subst hr;refine bA seat Tryz.func71 45 ?_;(iterate 3 ((all_goals(refine aa ?_));(all_goals(first | (refine ah rfl aA rfl (src (c1)) rfl rfl ?_) | ((first | refine ag rfl rfl ?_ rfl ?_ | refine ad rfl ?_ ?_);all_goals(intro h;(try simp only [pl] at h);(try (exfalso;omega)))) | skip))));refine au ?_;rfl
 rw [if_neg hg] at hr;cases b2 with
 | false=>
  rw [if_pos rfl] at hr;subst hr;refine bA seat Tryz.func71 45 ?_;(iterate 4 ((all_goals(refine aa ?_));(all_goals(first | (refine ah rfl aA rfl (src (c1)) rfl rfl ?_) | (refine ah rfl aA rfl (src (c2)) rfl rfl ?_) | ((first | refine ag rfl rfl ?_ rfl ?_ | refine ad rfl ?_ ?_);all_goals(intro h;(try simp only [pl] at h);(try (exfalso;omega)))) | skip))));refine au ?_;rfl
 | true=>
 rw [if_neg sm] at hr;by_cases hl:trs.length=0∨16 < trs.length
 ·rw [if_pos hl] at hr;subst hr;refine bA seat Tryz.func71 45 ?_;(iterate 6 ((all_goals(refine aa ?_));(all_goals(first | (refine ah rfl aA rfl (src (c1)) rfl rfl ?_) | (refine ah rfl aA rfl (src (c2)) rfl rfl ?_) | ((first | refine ag rfl rfl ?_ rfl ?_ | refine ad rfl ?_ ?_);all_goals(intro h;(try simp only [pl] at h);(try (exfalso;omega)))) | skip))));all_goals(refine au ?_;rfl)
 rw [if_neg hl] at hr;refine bA seat Tryz.func71 45 ?_;(iterate 6 ((all_goals(refine aa ?_));(all_goals(first | (refine ah rfl aA rfl (src (c1)) rfl rfl ?_) | (refine ah rfl aA rfl (src (c2)) rfl rfl ?_) | ((first | refine ag rfl rfl ?_ rfl ?_ | refine ad rfl ?_ ?_);all_goals(intro h;(try simp only [pl] at h);(try (exfalso;omega)))) | skip))));refine av Nat (fun k=> [(33, .int .i64 k),(32, .int .i64 trs.length),(31, .sl trs.length (trs.map lC))]) (fun _=> []) 0 (fun k=>k≤trs.length∧uq (trs.drop k)=r) (fun k=>trs.length - k) 0 ⟨a₈ _,by rw [a₉];exact hr⟩ (vm [] []) ?_;rintro k ⟨hk,hR⟩;try dsimp only
 refine aa ?_;refine ad rfl ?_ ?_ <;> intro h
 ·have hk':k < trs.length:=by have:=ot h;omega
  have hx:=h7 _ (b₇ hk');have hel:=aj.mk (ll hk');rw [a₄ hk',uq] at hR;generalize trs[k] =x at *;have d1:=xM (G:=G) x.to_ (by have:=hx.1;omega);generalize dS x.to_=b at *;cases b with
  | false=>
   rw [if_pos rfl] at hR;subst hR;(iterate 3 ((all_goals(refine aa ?_));(all_goals(first | (refine ah rfl aA rfl (src (d1)) rfl rfl ?_) | ((first | refine ag rfl rfl ?_ rfl ?_ | refine ad rfl ?_ ?_);all_goals(intro h;(try simp only [pl] at h);(try (exfalso;omega)))) | skip))));refine au ?_;rfl
  | true=>
   rw [if_neg sm] at hR;by_cases hz:x.amt=0
   ·rw [if_pos hz] at hR;subst hR;(iterate 4 ((all_goals(refine aa ?_));(all_goals(first | (refine ah rfl aA rfl (src (d1)) rfl rfl ?_) | ((first | refine ag rfl rfl ?_ rfl ?_ | refine ad rfl ?_ ?_);all_goals(intro h;(try simp only [pl] at h);(try (exfalso;omega)))) | skip))));refine au ?_;rfl
   ·rw [if_neg hz] at hR;(iterate 4 ((all_goals(refine aa ?_));(all_goals(first | (refine ah rfl aA rfl (src (d1)) rfl rfl ?_) | ((first | refine ag rfl rfl ?_ rfl ?_ | refine ad rfl ?_ ?_);all_goals(intro h;(try simp only [pl] at h);(try (exfalso;omega)))) | skip))));exact⟨k + 1,⟨om,hR⟩,by show trs.length - (k + 1) < trs.length - k;omega,(by dsimp only;exact(vm [] []))⟩
 ·have hk':k=trs.length:=by have:=oF h;omega
  subst hk';rw [b₂,uq] at hR;subst hR;refine aa ?_;refine au ?_;rfl
end
section
variable {G:GS}
attribute [local irreducible] ak aB aD aI aN vC aW aw
theorem sF (s:List UInt8) (hs:s.length≤140737488355328):aE Tryz.prog G 73 [.str s] (.bool (dS s)):=by
 generalize hr:dS s=r;unfold dS at hr;refine bA seat Tryz.func73 40 ?_;refine aa ?_;refine av Nat (fun i=> [(7, .int .i64 i),(6, .int .i64 s.length),(0, .str s)]) (fun _=> []) 0 (fun i=>i≤s.length∧(s.take i).all my=true) (fun i=>s.length - i) 0 ⟨a₈ _,sm⟩ (vm [] []) ?_;rintro i ⟨hi,hp⟩;try dsimp only
 refine aa ?_;refine ad rfl ?_ ?_ <;> intro h
 ·have hi':i < s.length:=by have:=ot h;omega
  have f0:=aj.mk (pM hi');have hsu:(s.take (i + 1)).all my=((s.take i).all my && my (s.getD i 0)):=by
   rw [b₆ hi',b₉];simp [hi']
  have hall:my (s.getD i 0)=false→s.all my=false:=fun h=>by
   rw [← d₀ (i + 1) s,b₉,hsu,h];simp
  generalize s.getD i 0=c at *;by_cases hc:my c=true
  ·rw [hp,hc] at hsu;have hc':=ot hc;(iterate 8 ((all_goals(refine aa ?_));(all_goals(first | ((first | refine ag rfl rfl ?_ rfl ?_ | refine ad rfl ?_ ?_);all_goals(intro h;(try simp only [pl] at h);(try (exfalso;omega)))) | skip))));all_goals exact⟨i + 1,⟨by omega,by rw [hsu];rfl⟩,by show s.length - (i + 1) < s.length - i;omega,(by dsimp only;exact(vm [] []))⟩
  ·have hcf:my c=false:=by simpa using hc
   rw [hall hcf,b₁] at hr;subst hr;have hc':=oF hcf;(iterate 8 ((all_goals(refine aa ?_));(all_goals(first | ((first | refine ag rfl rfl ?_ rfl ?_ | refine ad rfl ?_ ?_);all_goals(intro h;(try simp only [pl] at h);(try (exfalso;omega)))) | skip))));all_goals(refine au ?_;rfl)
 ·have hi':i=s.length:=by have:=oF h;omega
  subst hi';rw [d₂] at hp;rw [hp,b₄] at hr;subst hr;(iterate 4 ((all_goals(refine aa ?_));(all_goals(first | ((first | refine ag rfl rfl ?_ rfl ?_ | refine ad rfl ?_ ?_);all_goals(intro h;(try simp only [pl] at h);(try (exfalso;omega)))) | skip))));all_goals(refine au ?_;exact congrArg MV.bool (by first | exact decide_eq_decide.2 (by omega) | exact(decide_eq_false (by omega)).symm))
theorem CX (b:List UInt8) (hb:b.length < 4000000000):aE Tryz.prog G 247 [.sl b.length (u8s b)] (nL (readS b 0 0)):=by
  unfold nL;generalize hr:readS b 0 0=r at *;obtain⟨r1,r2,r3⟩:=r;dsimp only;refine bA seat Tryz.func247 52 ?_;refine aa ?_;refine av (Nat×Nat) (fun x=> [(0, .sl b.length (u8s b)),(2, .int .u64 x.2),(5, .int .i64 x.1)]) (fun _=> []) 0 (fun x=>x.1≤9∧x.1≤b.length∧x.2 < 128 ^ x.1∧readS (b.drop x.1) x.1 x.2=(r1,r2,r3)) (fun x=>b.length - x.1) (0,0) ⟨dm,dm,dm,by dsimp only;rw [a₉];exact hr⟩ (by dsimp only;exact(vm [] [])) ?_;rintro⟨i,n⟩ ⟨hi,hib,hn,hR⟩;try dsimp only
  dsimp only at hi hib hn hR;refine aa ?_;refine ad rfl ?_ ?_ <;> intro h
  · have hi':i=b.length:=by have:=ot h;omega
    rw [c₈ om,readS] at hR;simp only [a₀] at hR;obtain⟨rfl,rfl,rfl⟩:=hR;refine aa ?_;refine au ?_;rfl
  · have hi':i < b.length:=by have:=oF h;omega
    have hel:=BI hi';rw [a₄ hi',readS] at hR;generalize b[i] =x at *;have hx256:=x.toNat_lt;refine aa ?_;refine ag rfl rfl ?_ rfl ?_ <;> intro h
    · have h9:i=9:=by
        have:(i:Int)=9:=by simpa using h
        omega
      (have fct:=aj.mk (hel);refine aa ?_);refine ad rfl ?_ ?_ <;> intro h
      · have hx:=ot h;rw [if_pos om] at hR;simp only [a₀] at hR;obtain⟨rfl,rfl,rfl⟩:=hR;refine aa ?_;refine au ?_;rfl
      · have hx:=oF h;rw [if_neg om] at hR;refine aa ?_;refine ag rfl rfl ?_ rfl ?_ <;> intro h
        · have h0:=ot h;(have fct:=aj.mk (hel);refine aa ?_);refine ad rfl ?_ ?_ <;> intro h
          · have hx:x.toNat=0:=by simpa using h
            rw [if_pos om] at hR;simp only [a₀] at hR;obtain⟨rfl,rfl,rfl⟩:=hR;refine aa ?_;refine au ?_;rfl
          · have hx:x.toNat≠0:=by simpa using h
            rw [if_neg om] at hR;have hv:i≤8∧x.toNat % 128 < 128∨i=9∧x.toNat % 128≤1:=om;(have fct:=aU.mk (mf x);have fct:=aU.mk (zO hv);have fct:=aU.mk (Lv hn hv);have fct:=aj.mk (hel);refine aa ?_);refine ad rfl ?_ ?_ <;> intro h
            · have hx:=ot h;rw [if_pos om] at hR;simp only [a₀] at hR;obtain⟨rfl,rfl,rfl⟩:=hR;refine aa ?_;refine au ?_;rw [b₈ (show x.toNat < 128 by omega)];rfl
            · have hx:=oF h;rw [if_neg om] at hR;refine aa ?_;refine⟨(i + 1,n + x.toNat % 128 * 128 ^ i),⟨dm,dm,?_,?_⟩,by show b.length - (i + 1) < b.length - i;omega,(by dsimp only;exact(vm [] []))⟩
              · have h3:x.toNat % 128 * 128 ^ i≤127 * 128 ^ i:=b₃ _ om;dsimp only;rw [c₅];omega
              · dsimp only;rw [show x.toNat % 128=x.toNat - 128 by omega];exact hR
        · have h0: ¬ (0:Int) < i:=by simpa using h
          rw [if_neg om] at hR;have hv:i≤8∧x.toNat % 128 < 128∨i=9∧x.toNat % 128≤1:=om;(have fct:=aU.mk (mf x);have fct:=aU.mk (zO hv);have fct:=aU.mk (Lv hn hv);have fct:=aj.mk (hel);refine aa ?_);refine ad rfl ?_ ?_ <;> intro h
          · have hx:=ot h;rw [if_pos om] at hR;simp only [a₀] at hR;obtain⟨rfl,rfl,rfl⟩:=hR;refine aa ?_;refine au ?_;rw [b₈ (show x.toNat < 128 by omega)];rfl
          · have hx:=oF h;rw [if_neg om] at hR;refine aa ?_;refine⟨(i + 1,n + x.toNat % 128 * 128 ^ i),⟨dm,dm,?_,?_⟩,by show b.length - (i + 1) < b.length - i;omega,(by dsimp only;exact(vm [] []))⟩
            · have h3:x.toNat % 128 * 128 ^ i≤127 * 128 ^ i:=b₃ _ om;dsimp only;rw [c₅];omega
            · dsimp only;rw [show x.toNat % 128=x.toNat - 128 by omega];exact hR
    · have h9:i≠9:=by
        have: ¬ (i:Int)=9:=by simpa using h
        omega
      rw [if_neg om] at hR;refine aa ?_;refine ag rfl rfl ?_ rfl ?_ <;> intro h
      · have h0:=ot h;(have fct:=aj.mk (hel);refine aa ?_);refine ad rfl ?_ ?_ <;> intro h
        · have hx:x.toNat=0:=by simpa using h
          rw [if_pos om] at hR;simp only [a₀] at hR;obtain⟨rfl,rfl,rfl⟩:=hR;refine aa ?_;refine au ?_;rfl
        · have hx:x.toNat≠0:=by simpa using h
          rw [if_neg om] at hR;have hv:i≤8∧x.toNat % 128 < 128∨i=9∧x.toNat % 128≤1:=om;(have fct:=aU.mk (mf x);have fct:=aU.mk (zO hv);have fct:=aU.mk (Lv hn hv);have fct:=aj.mk (hel);refine aa ?_);refine ad rfl ?_ ?_ <;> intro h
          · have hx:=ot h;rw [if_pos om] at hR;simp only [a₀] at hR;obtain⟨rfl,rfl,rfl⟩:=hR;refine aa ?_;refine au ?_;rw [b₈ (show x.toNat < 128 by omega)];rfl
          · have hx:=oF h;rw [if_neg om] at hR;refine aa ?_;refine⟨(i + 1,n + x.toNat % 128 * 128 ^ i),⟨dm,dm,?_,?_⟩,by show b.length - (i + 1) < b.length - i;omega,(by dsimp only;exact(vm [] []))⟩
            · have h3:x.toNat % 128 * 128 ^ i≤127 * 128 ^ i:=b₃ _ om;dsimp only;rw [c₅];omega
            · dsimp only;rw [show x.toNat % 128=x.toNat - 128 by omega];exact hR
      · have h0: ¬ (0:Int) < i:=by simpa using h
        rw [if_neg om] at hR;have hv:i≤8∧x.toNat % 128 < 128∨i=9∧x.toNat % 128≤1:=om;(have fct:=aU.mk (mf x);have fct:=aU.mk (zO hv);have fct:=aU.mk (Lv hn hv);have fct:=aj.mk (hel);refine aa ?_);refine ad rfl ?_ ?_ <;> intro h
        · have hx:=ot h;rw [if_pos om] at hR;simp only [a₀] at hR;obtain⟨rfl,rfl,rfl⟩:=hR;refine aa ?_;refine au ?_;rw [b₈ (show x.toNat < 128 by omega)];rfl
        · have hx:=oF h;rw [if_neg om] at hR;refine aa ?_;refine⟨(i + 1,n + x.toNat % 128 * 128 ^ i),⟨dm,dm,?_,?_⟩,by show b.length - (i + 1) < b.length - i;omega,(by dsimp only;exact(vm [] []))⟩
          · have h3:x.toNat % 128 * 128 ^ i≤127 * 128 ^ i:=b₃ _ om;dsimp only;rw [c₅];omega
          · dsimp only;rw [show x.toNat % 128=x.toNat - 128 by omega];exact hR
theorem ET {b:List UInt8} (hb:b.length < 4000000000) {n:Nat} {r:Nat×Nat×Nat} (h:readS (b.drop n) 0 0=r):aE Tryz.prog G 247 [.sl (b.length - n) (cutL (u8s b) n b.length)] (nL r):=by
 have:=CX (G:=G) (b.drop n) (by rw [a₁];omega);rw [h,a₁] at this;rw [cut_u8,a₇ (by rw [a₁];omega)];exact this
theorem OZ {m:Nat} (hm:m < 18446744073709551616):IntKind.u64.wrap ((BitVec.ofInt IntKind.u64.bits (m:Int) &&& BitVec.ofInt IntKind.u64.bits (7:Int)).toNat:Int)=((m % 8:Nat):Int):=by
 have e:=Nat.and_two_pow_sub_one_eq_mod m 3;rw [BitVec.toNat_and,eU _ _ (show m < 2 ^ IntKind.u64.bits from hm),show (7:Int)=((7:Nat):Int) by rfl,eU _ _ (show 7 < 2 ^ IntKind.u64.bits by decide),show (7:Nat)=2 ^ 3 - 1 by rfl,e,wu64];omega
theorem O0 (m:Nat):((m:Int).fdiv (2 ^ (min (3:Int).toNat IntKind.u64.bits)))=((m / 8:Nat):Int):=by
 rw [show min (3:Int).toNat IntKind.u64.bits=3 by rfl,Int.fdiv_eq_ediv_of_nonneg _ (by decide)];exact(Int.natCast_ediv m 8).symm
theorem Md (b:List UInt8) (hb:b.length < 1000000000):aQ Tryz.prog G 190 [.sl b.length (u8s b)] [] 0 (.tup [bR (fF b).1, .int .i64 (fF b).2.1, .int .i64 (fF b).2.2]) [] 0:=by
  have c1:=CX (G:=G) b om;have h1ok:=kY b 0 0 om om;generalize hr:fF b=r at *;obtain⟨f,m,e⟩:=r;have hR:=hr;unfold fF at hR;generalize readS b 0 0=t at *;obtain⟨T,n,e1⟩:=t;dsimp only at hR h1ok;unfold nL at c1;unfold bR;dsimp only at c1;dsimp only;refine dw seat Tryz.func190 85 ?_;refine aa ?_;refine dL (c1) ?_;refine ad rfl ?_ ?_ <;> intro h
  · have he1:e1≠0:=by intro h0;subst h0;cases h
    rw [if_pos he1] at hR;simp only [a₀] at hR;obtain⟨rfl,rfl,rfl⟩:=hR;refine aa ?_;refine au ?_;exact en [_,_,_]
  have he1:e1=0:=by
    have:(e1:Int)=0:=by simpa using h
    omega
  subst he1;have hT:=(h1ok rfl).2.2;rw [if_neg sm] at hR;have hmod:=OZ hT;have hdiv:=O0 T;have h2ok:=kY (b.drop n) 0 0 om om;generalize hr2:readS (b.drop n) 0 0=t2 at *;obtain⟨v,k,e2⟩:=t2;have c2:=ET (G:=G) (b:=b) om hr2;unfold nL at c2;dsimp only at hR c2 h2ok;generalize hD:T / 8=D at *;generalize hK:T % 8=K at *;(have fct:=aU.mk (hmod);have fct:=aU.mk (hdiv);refine aa ?_);refine ag rfl rfl ?_ rfl ?_ <;> intro h
  · have hD1: ¬ (D:Int) < 1:=by simpa using h
    refine aa ?_;refine ag rfl rfl ?_ rfl ?_ <;> intro h
    · have hD3: ¬ (536870911:Int) < D:=by simpa using h
      refine aa ?_;refine ag rfl rfl ?_ rfl ?_ <;> intro h
      · have hK0:K≠0:=by
          have: ¬ (K:Int)=0:=by simpa using h
          omega
        refine aa ?_;refine ad rfl ?_ ?_ <;> intro h
        · have hK2:K≠2:=by
            have: ¬ (K:Int)=2:=by simpa using h
            omega
          rw [if_pos om] at hR;simp only [a₀] at hR;obtain⟨rfl,rfl,rfl⟩:=hR;refine aa ?_;refine au ?_;exact en [_,_,_]
        have hK2:K=2:=by
          have:(K:Int)=2:=by simpa using h
          omega
        subst hK2;rw [if_neg om] at hR;have hnb:n≤b.length:=by have:=h1ok rfl;omega
        (have fct:=aj.mk (fW (κ:= .i64) hnb);have fct:=bE.mk (bP b);refine aa ?_);refine dL (c2) ?_;refine ad rfl ?_ ?_ <;> intro h
        · have he2:e2≠0:=by intro h0;subst h0;cases h
          rw [if_pos he2] at hR;simp only [a₀] at hR;obtain⟨rfl,rfl,rfl⟩:=hR;refine aa ?_;refine au ?_;exact en [_,_,_]
        have he2:e2=0:=by
          have:(e2:Int)=0:=by simpa using h
          omega
        subst he2;have hk:=h2ok rfl;rw [a₁] at hk;rw [if_neg sm] at hR;rw [if_neg om] at hR;have hnk:n + k≤b.length:=om;have hlo:dz b.length (some (.int .i64 ((n:Int) + k))) none=some (n + k,b.length):=by
          rw [show (n:Int) + k=((n + k:Nat):Int) by omega];exact fW hnk
        (have fct:=aj.mk (hlo);have fct:=bE.mk (bP b);refine aa ?_);refine ad rfl ?_ ?_ <;> intro h
        · have hv:=ot h;rw [if_pos om] at hR;simp only [a₀] at hR;obtain⟨rfl,rfl,rfl⟩:=hR;refine aa ?_;refine au ?_;exact en [_,_,_]
        have hv:=oF h;rw [if_neg om] at hR;simp only [a₀] at hR;obtain⟨rfl,rfl,rfl⟩:=hR;have hhi:dz (b.length - (n + k)) none (some (.int .u64 (v:Int)))=some (0,v):=jo om;have hl:((b.drop (n + k)).take v).length=v:=by rw [c₆,a₁];omega
        (have fct:=aj.mk (hhi);have fct:=bE.mk (pG b (n + k) b.length);refine aa ?_);refine aL rfl rfl (by intro R hR;refine cI hR ?_;refine a₂ ((by(try dsimp only);rw [cut_u8,cut_u8];exact bP _)) ?_;refine a₂ (pD (by kernel_rfl) (by dsimp only;omega)) ?_;exact hR) rfl ?_;refine aa ?_;refine au ?_;rw [show ((n + k + v:Nat):Int)=(n:Int) + k + v by omega];dsimp only;rw [hl];refine⟨[_,_,_],[],[(69,v)],rfl,rfl,?_,rfl,⟨?_,?_,?_,trivial⟩,?_⟩
        · refine⟨?_,trivial⟩
          show v≤List.length _
          dsimp only;rw [cut_u8,cut_u8];simp only [u8s,c₇,c₆,a₁];omega
        · refine .inr ⟨_,rfl,⟨rfl,rfl⟩,⟨rfl,rfl⟩,⟨rfl,rfl⟩, .inr ⟨rfl,rfl,rfl,?_,?_⟩,trivial⟩
          · exact c₀ sm
          · dsimp only;rw [cut_u8,cut_u8];simp only [cutL,u8s];simp only [Nat.sub_zero,a₅,a₉];rw [a₇ (l:=b.drop (n + k)) sm,a₇ (by rw [c₇,c₆];omega)]
        · exact rv
        · exact rv
        · exact mm
      · have hK0:K=0:=by
          have:(K:Int)=0:=by simpa using h
          omega
        subst hK0;rw [if_neg om] at hR;have hnb:n≤b.length:=by have:=h1ok rfl;omega
        (have fct:=aj.mk (fW (κ:= .i64) hnb);have fct:=bE.mk (bP b);refine aa ?_);refine dL (c2) ?_;refine ad rfl ?_ ?_ <;> intro h
        · have he2:e2≠0:=by intro h0;subst h0;cases h
          rw [if_pos he2] at hR;simp only [a₀] at hR;obtain⟨rfl,rfl,rfl⟩:=hR;refine aa ?_;refine au ?_;exact en [_,_,_]
        have he2:e2=0:=by
          have:(e2:Int)=0:=by simpa using h
          omega
        subst he2;have hk:=h2ok rfl;rw [a₁] at hk;rw [if_neg sm] at hR;rw [if_pos rfl] at hR;simp only [a₀] at hR;obtain⟨rfl,rfl,rfl⟩:=hR;refine aa ?_;refine au ?_;exact en [_,_,_]
    · have hD3:(536870911:Int) < D:=by simpa using h
      rw [if_pos om] at hR;refine aa ?_;simp only [a₀] at hR;obtain⟨rfl,rfl,rfl⟩:=hR;refine aa ?_;refine au ?_;exact en [_,_,_]
  · have hD1:(D:Int) < 1:=by simpa using h
    rw [if_pos om] at hR;refine aa ?_;simp only [a₀] at hR;obtain⟨rfl,rfl,rfl⟩:=hR;refine aa ?_;refine au ?_;exact en [_,_,_]
theorem Hu {b:List UInt8} (hb:b.length < 1000000000) {n:Nat}:aQ Tryz.prog G 190 [.sl (b.length - n) (cutL (u8s b) n b.length)] [] 0 (.tup [bR (fF (b.drop n)).1, .int .i64 (fF (b.drop n)).2.1, .int .i64 (fF (b.drop n)).2.2]) [] 0:=by
 have:=Md (G:=G) (b.drop n) (by rw [a₁];omega);rw [a₁] at this;rw [cut_u8,a₇ (by rw [a₁];omega)];exact this
theorem wm (b:List UInt8) (hb:b.length < 1000000000):aQ Tryz.prog G 128 [.sl b.length (u8s b)] [] 0 (.tup [.sl (aC b).1.length ((aC b).1.map bR), .int .i64 (aC b).2.1, .int .i64 (aC b).2.2]) [] 0:=by
  generalize hr:aC b=r;obtain⟨l,at1,e1⟩:=r;dsimp only;refine dw seat Tryz.func128 36 ?_;refine aa ?_;refine av (Nat×List eE) (fun x=> [(3, .int .i64 x.1),(2, .ms 0 4 0 x.2.length),(0, .sl b.length (u8s b))]) (fun x=> [(0,⟨183,4,true,0,x.2.map bR⟩)]) 1 (fun x=>x.1≤b.length∧x.2.length≤1024∧fP (1024 - x.2.length) (b.drop x.1) x.1 x.2=(l,at1,e1)) (fun x=>b.length - x.1) (0,[]) ⟨a₈ _,a₈ _,by dsimp only;rw [a₉];exact hr⟩ (by dsimp only;exact(vm [] [])) ?_;rintro⟨i,acc⟩ ⟨hi,ha,hG⟩;try dsimp only
  dsimp only at hi ha hG;refine aa ?_;refine ad rfl ?_ ?_ <;> intro h
  · have hi':i < b.length:=by have:=ot h;omega
    have hne:=CT hi';refine aa ?_;refine ad rfl ?_ ?_ <;> intro h
    · have h4:acc.length=1024:=by have:=eq_of_beq h;omega
      rw [h4,Nat.sub_self,kZ hne] at hG;simp only [a₀] at hG;obtain⟨rfl,rfl,rfl⟩:=hG;refine aa ?_;exact en [_,_,_]
    · have h4:acc.length < 1024:=by
        have: ¬ (acc.length:Int)=1024:=by simpa using h
        omega
      have c1:=Hu (G:=G) hb (n:=i);have hok:=BG (b:=b.drop i);rw [show 1024 - acc.length=(1023 - acc.length) + 1 by omega,k8 hne] at hG;generalize fF (b.drop i)=o at *;obtain⟨f,m,e⟩:=o;dsimp only at c1 hok hG;(have fct:=aj.mk (fW (κ:= .i64) hi);have fct:=bE.mk (bP b);refine aa ?_);refine jW (c1) ?_;refine ad rfl ?_ ?_ <;> intro h
      · have he:e≠0:=by intro h0;subst h0;cases h
        rw [if_pos he] at hG;simp only [a₀] at hG;obtain⟨rfl,rfl,rfl⟩:=hG;refine aa ?_;exact en [_,_,_]
      · have he:e=0:=by
          have:(e:Int)=0:=by simpa using h
          omega
        subst he;rw [if_neg sm,List.drop_drop] at hG;have hok:=hok rfl;rw [a₁] at hok;refine aa ?_;refine aL rfl rfl (by intro R hR;refine cI hR ?_;(refine a₂ (c₂ _) ?_;refine⟨_,rfl,?_⟩;refine a₂ ⟨sm,ai (by kernel_rfl) pf⟩ ?_;refine⟨(acc ++ [f]).map bR,sv (by simp;rfl),acc.length + 1,sv pf,?_⟩);exact hR) rfl ?_;refine aa ?_;refine⟨(i + m,acc ++ [f]),⟨dm,by dsimp only;rw [a₆,a₃];omega,?_⟩,by show b.length - (i + m) < b.length - i;omega,?_⟩
        · dsimp only;rw [a₆,a₃,show 1024 - (acc.length + 1)=1023 - acc.length by omega];exact hG
        · dsimp only;rw [a₆,a₃];exact(vm [(0,_)] [])
  · have hi':b.length≤i:=by have:=oF h;omega
    rw [c₈ hi',mg] at hG;simp only [a₀] at hG;obtain⟨rfl,rfl,rfl⟩:=hG;refine aa ?_;refine⟨[_,_,_],[],[(0,acc.length)],rfl,rfl,?_,rfl,⟨?_,?_,?_,trivial⟩,?_⟩
    · exact⟨by show acc.length≤(acc.map bR).length;simp,trivial⟩
    · exact .inr ⟨rfl,rfl,rfl,c₀ (a₅ _),bc bR acc⟩
    · exact rv
    · exact rv
    · exact mm
end
end Go.Proofs.YtohikcplmbkmeaaGreatDoor
namespace Go.Proofs
open Go.Shelf
def Tryz.lays134_ren:Go.Shelf.Ren:=⟨fun | 134=>249 | 129=>189 | n=>n,fun | 53=>23 | 3=>3 | 4=>4 | 46=>190 | 5=>5 | 9=>9 | n=>n,fun | n=>n⟩
theorem Tryz.lays134:Go.Proofs.Lays.n134 Tryz.prog Tryz.lays134_ren:={
 mixed:=by kernel_rfl
 f129:=Tryz.func189.trans (congrArg some (by kernel_rfl))
 f134:=Tryz.func249.trans (congrArg some (by kernel_rfl))
 t3:=Tryz.underlying3
 a3:=Tryz.isAgg3
 z3:=Tryz.sizeOf3
 v3:=Tryz.zeroValue3
 t4:=Tryz.underlying4
 a4:=Tryz.isAgg4
 z4:=Tryz.sizeOf4
 v4:=Tryz.zeroValue4
 t5:=Tryz.underlying5
 a5:=Tryz.isAgg5
 z5:=Tryz.sizeOf5
 v5:=Tryz.zeroValue5
 t9:=Tryz.underlying9
 a9:=Tryz.isAgg9
 z9:=Tryz.sizeOf9
 v9:=Tryz.zeroValue9
 t46:=Tryz.underlying190
 a46:=Tryz.isAgg190
 z46:=Tryz.sizeOf190
 v46:=Tryz.zeroValue190
 t53:=Tryz.underlying23
 a53:=Tryz.isAgg23
 z53:=Tryz.sizeOf23
 v53:=Tryz.zeroValue23 }
theorem Tryz.bits_LeadingZeros64 (x:Int) (w:World) (h0:0≤x) (h1:x≤18446744073709551615) :
  Calls Tryz.prog 249 #[.int .u64 x] w fun e w'=>e= .returned (.int .i64 (64 - (Lib.bitLen x.toNat:Int)))∧w'=w:=Any.bits_LeadingZeros64 Tryz.lays134 x w h0 h1
def Tryz.lays197_ren:Go.Shelf.Ren:=⟨fun | 197=>248 | 260=>272 | n=>n,fun | 9=>9 | 21=>21 | 3=>3 | 4=>4 | 5=>5 | 105=>305 | 119=>335 | 0=>0 | 46=>190 | 139=>338 | 138=>337 | n=>n,fun | 3=>2 | 4=>3 | n=>n⟩
theorem Tryz.lays197:Go.Proofs.Lays.n197 Tryz.prog Tryz.lays197_ren:={
 mixed:=by kernel_rfl
 f197:=Tryz.func248.trans (congrArg some (by kernel_rfl))
 f260:=Tryz.func272.trans (congrArg some (by kernel_rfl))
 t0:=Tryz.underlying0
 a0:=Tryz.isAgg0
 z0:=Tryz.sizeOf0
 v0:=Tryz.zeroValue0
 t3:=Tryz.underlying3
 a3:=Tryz.isAgg3
 z3:=Tryz.sizeOf3
 v3:=Tryz.zeroValue3
 t4:=Tryz.underlying4
 a4:=Tryz.isAgg4
 z4:=Tryz.sizeOf4
 v4:=Tryz.zeroValue4
 t5:=Tryz.underlying5
 a5:=Tryz.isAgg5
 z5:=Tryz.sizeOf5
 v5:=Tryz.zeroValue5
 t9:=Tryz.underlying9
 a9:=Tryz.isAgg9
 z9:=Tryz.sizeOf9
 v9:=Tryz.zeroValue9
 t21:=Tryz.underlying21
 a21:=Tryz.isAgg21
 z21:=Tryz.sizeOf21
 v21:=Tryz.zeroValue21
 t46:=Tryz.underlying190
 a46:=Tryz.isAgg190
 z46:=Tryz.sizeOf190
 v46:=Tryz.zeroValue190
 t105:=Tryz.underlying305
 a105:=Tryz.isAgg305
 z105:=Tryz.sizeOf305
 v105:=Tryz.zeroValue305
 t119:=Tryz.underlying335
 a119:=Tryz.isAgg335
 z119:=Tryz.sizeOf335
 t138:=Tryz.underlying337
 a138:=Tryz.isAgg337
 z138:=Tryz.sizeOf337
 v138:=Tryz.zeroValue337
 t139:=Tryz.underlying338
 a139:=Tryz.isAgg338
 z139:=Tryz.sizeOf338
 v139:=Tryz.zeroValue338
 g3:=by kernel_rfl
 g4:=by kernel_rfl }
open Go.RowKit Go.Lib in
theorem Tryz.utf8_DecodeRuneInString (s:ByteArray) (w:World) (hT:Lib.Utf8Tabs 2 3 w) :
  Calls Tryz.prog 248 #[.string s] w fun e w'=>e= .returned (.tuple #[.int .i32 (Lib.decodeGo s).1, .int .i64 (Lib.decodeGo s).2])∧Below w.heap.size w w':=Any.utf8_DecodeRuneInString Tryz.lays197 s w hT
end Go.Proofs
namespace Go.Proofs.YtohikcplmbkmeaaGreatDoor
open Go.RowKit
section
def LU (g:Nat):Prop:=g=2∨g=3
def UtfOK (w:World):Prop:=Lib.Utf8Tabs 2 3 w
theorem UtfOK.same {w w':World} (h:UtfOK w) (hs: ∀g,LU g→w'.heap[g]? =w.heap[g]?):UtfOK w':=
 ⟨fun c hc=>(gR (hs _ (.inl rfl))).trans (h.1 c hc),fun i hi=>⟨(gR (hs _ (.inr rfl))).trans (h.2 i hi).1,(gR (hs _ (.inr rfl))).trans (h.2 i hi).2⟩⟩
theorem UtfOK.lt {w:World} (h:UtfOK w) {g:Nat} (hg:LU g):g < w.heap.size:=by
 rcases hg with rfl | rfl
 ·exact World.block_lt_of_cell? _ _ (h.1 0 om)
 ·exact World.block_lt_of_cell? _ _ (h.2 0 om).1
def GU:GS:=⟨UtfOK,LU,fun _ _ h hg=>h.lt hg,fun _ _ _ h hx hs=>h.same fun _ hg=>hs.block _ (h.lt hg) (fun e=>hx _ e hg)⟩
theorem Kg (s:List UInt8):aE Tryz.prog GU 248 [.str s] (.tup [.int .i32 (Lib.decodeGo ⟨s.toArray⟩).1, .int .i64 (Lib.decodeGo ⟨s.toArray⟩).2]):=by
 intro w P vals hg hP hargs;cases hargs with
 | cons h t=>
  cases t with
  | nil=>
   obtain rfl:=h.str_;refine(Tryz.utf8_DecodeRuneInString ⟨s.toArray⟩ w hg).mono ?_;rintro e w' ⟨rfl,hb⟩;refine⟨_,rfl, .tup [.int .i32 (Lib.decodeGo ⟨s.toArray⟩).1, .int .i64 (Lib.decodeGo ⟨s.toArray⟩).2] rfl fun j m u hm hu=>?_,hb⟩
   match j with
   | 0=>simp at hm hu;subst hm hu;exact⟨_, .int,rfl⟩
   | 1=>simp at hm hu;subst hm hu;exact⟨_, .int,rfl⟩
   | j + 2=>simp at hm
def gN (n b0 b1 b2 b3:Nat):Nat:=
 if b0 < 128 then 1 else
 if 194≤b0∧b0 < 224∧(1 < n∧128≤b1∧b1 < 192) then 2 else
 if 224≤b0∧b0 < 240∧(1 < n∧128≤b1∧b1 < 192)∧(2 < n∧128≤b2∧b2 < 192) then
  (if b0=224∧b1 < 160∨b0=237∧160≤b1 then 0 else 3) else
 if 240≤b0∧b0 < 245∧(1 < n∧128≤b1∧b1 < 192)∧(2 < n∧128≤b2∧b2 < 192)∧(3 < n∧128≤b3∧b3 < 192) then
  (if b0=240∧b1 < 144∨b0=244∧144≤b1 then 0 else 4) else 0
theorem EU (n b0 b1 b2 b3:Nat) (h0:b0 < 256) (h1:b1 < 256) (h2:b2 < 256) (h3:b3 < 256) :
  (gN n b0 b1 b2 b3=0→Lib.decodeN n b0 b1 b2 b3=(65533,1))∧(gN n b0 b1 b2 b3≠0→(Lib.decodeN n b0 b1 b2 b3).2=gN n b0 b1 b2 b3∧¬ ((Lib.decodeN n b0 b1 b2 b3).1=65533∧(Lib.decodeN n b0 b1 b2 b3).2=1)):=by
 have key: ∀(r:Nat) (d:Nat×Nat),gN n b0 b1 b2 b3=r→Lib.decodeN n b0 b1 b2 b3=d→(r=0→d=(65533,1))→(r≠0→d.2=r∧¬ (d.1=65533∧d.2=1))→(gN n b0 b1 b2 b3=0→Lib.decodeN n b0 b1 b2 b3=(65533,1))∧(gN n b0 b1 b2 b3≠0→(Lib.decodeN n b0 b1 b2 b3).2=gN n b0 b1 b2 b3∧¬ ((Lib.decodeN n b0 b1 b2 b3).1=65533∧(Lib.decodeN n b0 b1 b2 b3).2=1)):=by
  intro r d e1 e2 e3 e4
  rw [e1,e2]
  exact⟨e3,e4⟩
 have bad:gN n b0 b1 b2 b3=0→Lib.decodeN n b0 b1 b2 b3=(65533,1)→_:=fun e1 e2=>key 0 _ e1 e2 (fun _=>rfl) (fun h=>absurd rfl h)
 by_cases a0:b0 < 128
 ·refine key 1 (b0,1) (by unfold gN;rw [if_pos a0]) (by unfold Lib.decodeN;rw [if_pos a0]) (fun h=>by cases h) (fun _=>⟨rfl,dm⟩)
 by_cases a1:b0 < 224
 ·by_cases c1:194≤b0∧1 < n∧b1 / 64=2
  ·refine key 2 (b0 % 32 * 64 + b1 % 64,2) ?_ ?_ (fun h=>by cases h) (fun _=>⟨rfl,dm⟩)
   ·unfold gN
    (repeat(first | rw [if_pos (by omega)] | rw [if_neg (by omega)]))
   ·unfold Lib.decodeN
    (repeat(first | rw [if_pos (by omega)] | rw [if_neg (by omega)]))
  ·refine bad ?_ ?_
   ·unfold gN
    (repeat(first | rw [if_pos (by omega)] | rw [if_neg (by omega)]))
   ·unfold Lib.decodeN
    by_cases c2:b0 / 32=6∧1 < n∧b1 / 64=2
    ·(repeat(first | rw [if_pos (by omega)] | rw [if_neg (by omega)]))
    ·(repeat(first | rw [if_pos (by omega)] | rw [if_neg (by omega)]))
 by_cases a2:b0 < 240
 ·by_cases c1:(1 < n∧b1 / 64=2)∧2 < n∧b2 / 64=2
  ·by_cases c2:b0=224∧b1 < 160∨b0=237∧160≤b1
   ·refine bad ?_ ?_
    ·unfold gN
     (repeat(first | rw [if_pos (by omega)] | rw [if_neg (by omega)]))
    ·unfold Lib.decodeN
     (repeat(first | rw [if_pos (by omega)] | rw [if_neg (by omega)]))
   ·refine key 3 (b0 % 16 * 4096 + b1 % 64 * 64 + b2 % 64,3) ?_ ?_ (fun h=>by cases h) (fun _=>⟨rfl,dm⟩)
    ·unfold gN
     (repeat(first | rw [if_pos (by omega)] | rw [if_neg (by omega)]))
    ·unfold Lib.decodeN
     (repeat(first | rw [if_pos (by omega)] | rw [if_neg (by omega)]))
  ·refine bad ?_ ?_
   ·unfold gN
    (repeat(first | rw [if_pos (by omega)] | rw [if_neg (by omega)]))
   ·unfold Lib.decodeN
    (repeat(first | rw [if_pos (by omega)] | rw [if_neg (by omega)]))
 by_cases c1:(1 < n∧b1 / 64=2)∧(2 < n∧b2 / 64=2)∧3 < n∧b3 / 64=2
 ·by_cases c2:b0 < 245∧¬ (b0=240∧b1 < 144∨b0=244∧144≤b1)
  ·refine key 4 (b0 % 8 * 262144 + b1 % 64 * 4096 + b2 % 64 * 64 + b3 % 64,4) ?_ ?_ (fun h=>by cases h) (fun _=>⟨rfl,dm⟩)
   ·unfold gN
    (repeat(first | rw [if_pos (by omega)] | rw [if_neg (by omega)]))
   ·unfold Lib.decodeN
    (repeat(first | rw [if_pos (by omega)] | rw [if_neg (by omega)]))
  ·refine bad ?_ ?_
   ·unfold gN
    by_cases c3:b0 < 245
    ·(repeat(first | rw [if_pos (by omega)] | rw [if_neg (by omega)]))
    ·(repeat(first | rw [if_pos (by omega)] | rw [if_neg (by omega)]))
   ·unfold Lib.decodeN
    by_cases c3:b0 / 8=30
    ·(repeat(first | rw [if_pos (by omega)] | rw [if_neg (by omega)]))
    ·(repeat(first | rw [if_pos (by omega)] | rw [if_neg (by omega)]))
 ·refine bad ?_ ?_
  ·unfold gN
   (repeat(first | rw [if_pos (by omega)] | rw [if_neg (by omega)]))
  ·unfold Lib.decodeN
   (repeat(first | rw [if_pos (by omega)] | rw [if_neg (by omega)]))
theorem NW (s:List UInt8) (i:Nat):(⟨s.toArray⟩:ByteArray).get! i=s.getD i 0:=by
 show s.toArray[i]! =_
 rw [Array.getElem!_eq_getD,Array.getD_eq_getD_getElem?];simp [default]
theorem BO {s:List UInt8} {i k:Nat}:eR s (i + k)=true↔(k < s.length - i∧128≤(s.getD (i + k) 0).toNat∧(s.getD (i + k) 0).toNat < 192):=by
 unfold eR;simp only [c₄,decide_eq_true_eq];omega
theorem Kh (s:List UInt8) (i:Nat):mr s i=gN (s.length - i) (s.getD i 0).toNat (s.getD (i + 1) 0).toNat (s.getD (i + 2) 0).toNat (s.getD (i + 3) 0).toNat:=by
 unfold mr gN;simp only [BO]
theorem dec_at (s:List UInt8) (i:Nat):Utf8.decode ⟨s.toArray⟩ i=Lib.decodeN (s.length - i) (s.getD i 0).toNat (s.getD (i + 1) 0).toNat (s.getD (i + 2) 0).toNat (s.getD (i + 3) 0).toNat:=by
 rw [Lib.decode_at];simp only [NW];rw [show (⟨s.toArray⟩:ByteArray).size=s.length by simp [ByteArray.size]]
theorem BP {s:List UInt8} {i:Nat} (hi:i < s.length):Lib.decodeGo ⟨(s.drop i).toArray⟩=Utf8.decode ⟨s.toArray⟩ i:=by
 have hsz:(⟨(s.drop i).toArray⟩:ByteArray).size=s.length - i:=by simp [ByteArray.size]
 unfold Lib.decodeGo;rw [if_neg (by rw [hsz];omega),dec_at,dec_at];simp only [a₁,Nat.sub_zero,List.getD_eq_getElem?_getD,List.getElem?_drop,Nat.add_zero,a₅]
theorem Ki (n:Nat):yH (n:Int)=some n:=by unfold yH;rw [if_pos om];rfl
theorem Kj {s:List UInt8} {pos:Nat} (h:pos < s.length):sX s pos=some (Utf8.decode ⟨s.toArray⟩ pos):=by unfold sX;rw [if_pos h]
theorem Kk {s:List UInt8} {pos:Nat} (h: ¬ pos < s.length):sX s pos=none:=by unfold sX;rw [if_neg h]
attribute [local irreducible] ak aB aD aI aN vC aW aw
attribute [local irreducible] yH sX
theorem Kl (s:List UInt8) (hs:s.length < 500000000):aE Tryz.prog GU 193 [.str s] (.bool (rR s)):=by
 generalize hr:rR s=r;unfold rR mw at hr;generalize hv:js s.length s 0 0=v at hr;obtain⟨V,ok⟩:=v;dsimp only at hr;refine bA seat Tryz.func193 31 ?_;refine aa ?_;refine av (Nat×Nat×Nat) (fun x=> [(9, .ptr 0 0 0 0 []),(3, .int .i64 x.2.2),(0, .str s)]) (fun x=> [(0,⟨9,0,false,0,[.mpv [.str s] [.nilp, .int .i64 (x.2.1:Nat)]]⟩)]) 1 (fun x=>js x.1 s x.2.1 x.2.2=(V,ok)∧s.length≤x.2.1 + x.1∧x.2.2≤x.2.1∧x.2.1≤s.length + 4) (fun x=>x.1) (s.length,0,0) ⟨hv,dm,dm,dm⟩ (by dsimp only;exact(vm [(0,_)] [])) ?_;clear hv;rintro⟨f,pos,cnt⟩ ⟨hR,hf,hc,hp⟩;try dsimp only
 dsimp only at hR hf hc hp;have f0:=aj.mk (Ki pos);by_cases hi:pos < s.length
 ·have c0:=Kg (s.drop pos);rw [BP hi,← a₇ (l:=s.drop pos) (i:=s.length - pos) (by rw [a₁];omega)] at c0;have hlaw:=EU (s.length - pos) (s.getD pos 0).toNat (s.getD (pos + 1) 0).toNat (s.getD (pos + 2) 0).toNat (s.getD (pos + 3) 0).toNat (UInt8.toNat_lt _) (UInt8.toNat_lt _) (UInt8.toNat_lt _) (UInt8.toNat_lt _);rw [← Kh,← dec_at] at hlaw;have f1:=Kj hi;have hle:=zW s pos;obtain⟨f',rfl⟩: ∃f',f=f' + 1:=⟨f - 1,om⟩
  rw [js,if_pos hi] at hR;generalize mr s pos=k at *;generalize Utf8.decode ⟨s.toArray⟩ pos=cw at *;obtain⟨c,wd⟩:=cw;dsimp only at c0 hlaw;have f1:=aU.mk f1;have hlo:=fW (κ:= .i64) (Nat.le_of_lt hi);have f2:=aj.mk hlo;by_cases hk:k=0
  ·rw [if_pos hk] at hR;have h2:=hlaw.1 hk;simp only [a₀] at h2 hR;obtain⟨rfl,rfl⟩:=h2;obtain⟨rfl,rfl⟩:=hR;refine aa ?_;refine dL (c0) ?_;subst hr;refine au ?_;rfl
  ·rw [if_neg hk] at hR;have h2:=hlaw.2 hk;obtain⟨rfl,h3⟩:=h2;refine aa ?_;refine dL (c0) ?_;refine ag rfl rfl ?_ rfl ?_ <;> intro h
   ·have hc2:c=65533:=by have:=eq_of_beq h;omega
    refine aa ?_;refine ad rfl ?_ ?_ <;> intro h
    ·exact absurd ⟨hc2,by have:=eq_of_beq h;omega⟩ h3
    refine aa ?_;exact⟨(f',pos + wd,cnt + 1),⟨hR,dm,dm,dm⟩,by show f' < f' + 1;omega,(by dsimp only;exact(vm [(0,_)] []))⟩
   ·refine aa ?_;exact⟨(f',pos + wd,cnt + 1),⟨hR,dm,dm,dm⟩,by show f' < f' + 1;omega,(by dsimp only;exact(vm [(0,_)] []))⟩
 ·have f1:=aU.mk (Kk hi);have:js f s pos cnt=(cnt,true):=by cases f with | zero=>rfl | succ f=>rw [js,if_neg hi]
  rw [this] at hR;simp only [a₀] at hR;obtain⟨rfl,rfl⟩:=hR;subst hr;refine aa ?_;refine au ?_;exact congrArg MV.bool (decide_eq_decide.2 om)
end
section
open Go.ChangeShapes Go.WideShapes Go.ChangeAt Go.RowKit
theorem Pu:ownKnob Tryz.prog.godebug=none:=by kernel_rfl
theorem Km:laidOutB Tryz.prog=true:=by kernel_rfl
noncomputable abbrev CY:List (String×DataW Unit):=Rows.appChecksRow.laid
theorem Hv:Rows.laid_unicode_utf8_first=Lib.firstData:=by kernel_rfl
theorem EV:(Rows.laid_unicode_utf8_acceptRanges:DataW Unit)=Lib.acceptData:=by kernel_rfl
theorem Hw {W:World} (hL:laidMet Tryz.prog CY W) (_hs:W.ShapedOpen Tryz.prog):GU.ok W:=
 utf8Tabs_of_readsT (ρ:=Tryz.lays197_ren) ⟨Tryz.underlying5,Tryz.underlying335,Tryz.underlying337,Tryz.underlying338⟩ ⟨by kernel_rfl,by kernel_rfl,by kernel_rfl,by kernel_rfl,by kernel_rfl,by kernel_rfl,by kernel_rfl⟩
  (by rw [← Hv];exact Lib.laidMet.reads hL (List.Mem.tail _ (List.Mem.head _)))
  (by rw [← EV];exact Lib.laidMet.reads hL (List.Mem.head _))
noncomputable abbrev CZ (os:Os):World:=World.laidAll Tryz.prog os CY
theorem zX {C:Checked} {os:Os} {f:FuncId} {fn:Func} {H:Type} {enc:TypeId×Value→H} {s:OpenSpec} {conds:List PathCond} {apart:Bool} {laid:List (String×DataW Unit)} (w0:World) (hos:w0.os=os) (args:Array Value)
  (hsh:(w0.forCall (fun _ _=>0) ⟨#[],args,[]⟩).Shaped C.prog)
  (hok:Input.okWideB C.prog (w0.forCall (fun _ _=>0) ⟨#[],args,[]⟩) f ⟨#[],args,[]⟩=true)
  (hrow:s.preRow enc C.prog fn conds apart laid (w0.forCall (fun _ _=>0) ⟨#[],args,[]⟩).memory args) :
  ∃(w:World) (tape:Tape) (i:Input),w.os=os∧(w.forCall tape i).Shaped C.prog∧i.vars= [] ∧Input.okWide C.prog (w.forCall tape i) .any w.heap.size f i∧
   s.preRow enc C.prog fn conds apart laid (w.forCall tape i).memory i.args∧({}:Assume).holds C.prog (lone (Frame.enter C.prog f i.args .normal) [] (w.forCall tape i)):=
 ⟨w0,fun _ _=>0,⟨#[],args,[]⟩,hos,hsh,(Input.okWide_of_okWideB (base:=0) hok).1,(Input.okWide_of_okWideB hok).2,hrow,by
  simp only [Assume.holds]
  exact⟨sm,sm,sm,sm,sm⟩⟩
theorem Kn (os:Os) (args:Array Value):((CZ os).forCall (fun _ _=>0) ⟨#[],args,[]⟩).Shaped Tryz.prog:=World.shaped_of_ZipB (by kernel_rfl) (by kernel_rfl)
theorem Hy (os:Os) (args:Array Value):laidMet Tryz.prog CY ((CZ os).forCall (fun _ _=>0) ⟨#[],args,[]⟩).memory:=laidMet_laidAll args (by kernel_rfl) (by kernel_rfl)
theorem Ko:Opn Tryz.prog 3 1 fun m=> ∃n,m= .int .i64 n∧(Lit.int .i64 n).wf=true:=Opn.int Tryz.underlying3 (by kernel_rfl)
theorem Hz:Opn Tryz.prog 24 1 fun m=> ∃l,m= .sl l.length l∧(∀x∈l,∃n,x= .int .i64 n∧(Lit.int .i64 n).wf=true)∧l.length≤140737488355328:=Opn.slice Tryz.underlying24 (by kernel_rfl) (Nat.le_of_ble_eq_true (by kernel_rfl)) om Ko
theorem EW {m:MV} (h: ∃l,m= .sl l.length l∧(∀x∈l,∃n,x= .int .i64 n∧(Lit.int .i64 n).wf=true)∧l.length≤140737488355328): ∃xs:List Int,m=iQ xs∧xs.length≤140737488355328:=by
 obtain⟨l,rfl,h,hl⟩:=h;obtain⟨us,rfl,_⟩:=wa l h;exact⟨us,by unfold iQ;rw [c₇],by simpa using hl⟩
end
section
variable {G:GS}
attribute [local irreducible] ak aB aD aI aN vC aW aw
def iZ (t:je):List UInt8×Nat:=if dG t≠0 then([],dG t) else if 4096 < (fk t).length then([],3) else(fk t,0)
theorem HA (t:je) (ht:iL t):aQ Tryz.prog G 44 [nP t] [] 0 (.tup [.sl (iZ t).1.length (u8s (iZ t).1), .int .i64 (iZ t).2]) [] 0:=by
 have c1:=wk (G:=G) t ht;have c2:=Ht (G:=G) t ht;have hfl:=qR ht;unfold iZ;generalize dG t=v at *;generalize fk t=m at *;by_cases hv:v=0
 ·subst hv;rw [if_neg sm];by_cases hm:4096 < m.length
  ·rw [if_pos hm];refine dw seat Tryz.func44 17 ?_;(iterate 6 ((all_goals(refine aa ?_));(all_goals(first | (refine ah rfl aA rfl (src (c1)) rfl rfl ?_) | (refine ah rfl aA rfl (c2) rfl rfl ?_) | ((first | refine ag rfl rfl ?_ rfl ?_ | refine ad rfl ?_ ?_);all_goals(intro h;(try simp only [pl] at h);(try (exfalso;omega)))) | skip))));exact en [_,_]
  ·rw [if_neg hm];refine dw seat Tryz.func44 17 ?_;(iterate 6 ((all_goals(refine aa ?_));(all_goals(first | (refine ah rfl aA rfl (src (c1)) rfl rfl ?_) | (refine ah rfl aA rfl (c2) rfl rfl ?_) | ((first | refine ag rfl rfl ?_ rfl ?_ | refine ad rfl ?_ ?_);all_goals(intro h;(try simp only [pl] at h);(try (exfalso;omega)))) | skip))));exact en [_,_]
 ·rw [if_pos hv];refine dw seat Tryz.func44 17 ?_;(iterate 5 ((all_goals(refine aa ?_));(all_goals(first | (refine ah rfl aA rfl (src (c1)) rfl rfl ?_) | (refine ah rfl aA rfl (c2) rfl rfl ?_) | ((first | refine ag rfl rfl ?_ rfl ?_ | refine ad rfl ?_ ?_);all_goals(intro h;(try simp only [pl] at h);(try (exfalso;omega)))) | skip))));exact en [_,_]
theorem ur (B:Nat): ∀(k:Nat) (b:List UInt8) (at_:Nat) (acc:List eE),b.length≤B→(∀f∈acc,iz f∧f.bytes.length≤B)→(∀f∈(fP k b at_ acc).1,iz f∧f.bytes.length≤B)∧(fP k b at_ acc).1.length≤acc.length + k
 | k,[],at_,acc,_,ha=>by rw [mg];exact⟨ha,dm⟩
 | 0,x :: b,at_,acc,_,_=>by rw [kZ sm];exact⟨sm,sm⟩
 | k + 1,x :: b,at_,acc,hb,ha=>by
  rw [k8 sm]
  split
  ·exact⟨sm,sm⟩
  ·rename_i h
   have h1:=BG (b:=x :: b) om
   have:=ur B k ((x :: b).drop (fF (x :: b)).2.1) (at_ + (fF (x :: b)).2.1) (acc ++ [(fF (x :: b)).1]) (by rw [a₁];omega) (ez ha fun f hf=>by rw [d₁.1 hf];exact⟨h1.2.2.1,om⟩)
   rw [a₆,a₃] at this
   exact⟨this.1,om⟩
theorem eX (b:List UInt8):(∀f∈(aC b).1,iz f∧f.bytes.length≤b.length)∧(aC b).1.length≤1024:=by
 have:=ur b.length 1024 b 0 [] (c₂ _) sm;simpa [aC] using this
def jt:List eE→lh→lh×Bool
 | [],x=>(x,true)
 | f :: r,x=>if f.num=1∧f.kind=2 then jt r ⟨f.bytes,x.amt⟩ else if f.num=2∧f.kind=0 then jt r ⟨x.to_,f.val⟩ else(x,false)
def dJ (b:List UInt8):lh×Bool:=match jt (aC b).1 ⟨[],0⟩ with
 | (x,ok)=>(x,ok && (decide ((aC b).2.2=0) && (aF (bJ 1 x.to_ ++ db 2 x.amt) == b)))
theorem sG (a b:List UInt8):aE Tryz.prog G 142 [.sl a.length (u8s a), .sl b.length (u8s b)] (.bool (a == b)):=by
 have f1:=aj.mk (fO a);have f2:=aj.mk (fO b);refine bA seat Tryz.func142 10 ?_;refine aa ?_;refine au ?_;rfl
theorem BQ (b:List UInt8) (hb:b.length≤5000):aQ Tryz.prog G 203 [.sl b.length (u8s b)] [] 0 (.tup [lC (dJ b).1, .bool (dJ b).2]) [] 0:=by
 have c0:=pH (G:=G) b om;have hfo:=eX b;generalize hr:dJ b=r;unfold dJ at hr;generalize aC b=t at *;obtain⟨l,at1,e⟩:=t;dsimp only at hr hfo c0;obtain⟨R,okk⟩:=r;dsimp only;refine dw seat Tryz.func203 63 ?_;refine aa ?_;refine jW (c0) ?_;refine av (Nat×lh) (fun x=> [(18, .int .i64 x.1),(17, .int .i64 l.length),(16, .sl l.length (l.map bR)),(7, .ptr 1 2 0 0 []),(6, .int .i64 e),(2, .ptr 0 2 0 0 []),(0, .sl b.length (u8s b))]) (fun x=> [(0,⟨95,2,false,0,[.st [.str [], .int .u64 0]]⟩),(1,⟨95,2,false,0,[.st [.str x.2.to_, .int .u64 x.2.amt]]⟩)]) 2 (fun x=>x.1≤l.length∧x.2.to_.length≤5000∧bo x.2.amt∧(match jt (l.drop x.1) x.2 with | (x,ok)=>(x,ok && (decide (e=0) && (aF (bJ 1 x.to_ ++ db 2 x.amt) == b))))=(R,okk)) (fun x=>l.length - x.1) (0,⟨[],0⟩) ⟨a₈ _,sm,by simp [bo],by dsimp only;rw [a₉];exact hr⟩ (by dsimp only;exact(vm [(0,_),(1,_)] [])) ?_;rintro⟨k,x⟩ ⟨hk,hx1,hx2,hR⟩;obtain⟨to_,amt⟩:=x;try dsimp only
 dsimp only at hk hx1 hx2 hR;refine aa ?_;refine ad rfl ?_ ?_ <;> intro h
 ·have hk':k < l.length:=by have:=ot h;omega
  have hok:=hfo.1 _ (b₇ hk');have hel:=nf hk';rw [a₄ hk'] at hR;generalize l[k] =f at *;obtain⟨num,kind,val,bytes⟩:=f;replace hel:bF (l.map bR) l.length (k:Int)=some (.st [.int .i64 num, .int .i64 kind, .int .u64 val, .sl bytes.length (u8s bytes)]):=hel;have hel:=aj.mk hel;have hby:=aj.mk (fO bytes);rw [jt] at hR;dsimp only at hR hok;by_cases g1:num=1∧kind=2
  ·rw [if_pos g1] at hR;obtain⟨rfl,rfl⟩:=g1;(iterate 6 ((all_goals(refine aa ?_));(all_goals(first | ((first | refine ag rfl rfl ?_ rfl ?_ | refine ad rfl ?_ ?_);all_goals(intro h;(try simp only [pl] at h);(try (exfalso;omega)))) | skip))));exact⟨(k + 1,⟨bytes,amt⟩),⟨dm,dm,hx2,hR⟩,by show l.length - (k + 1) < l.length - k;omega,(by dsimp only;exact(vm [(0,_),(1,_)] []))⟩
  rw [if_neg g1] at hR;by_cases g2:num=2∧kind=0
  ·rw [if_pos g2] at hR;obtain⟨rfl,rfl⟩:=g2;(iterate 6 ((all_goals(refine aa ?_));(all_goals(first | ((first | refine ag rfl rfl ?_ rfl ?_ | refine ad rfl ?_ ?_);all_goals(intro h;(try simp only [pl] at h);(try (exfalso;omega)))) | skip))));exact⟨(k + 1,⟨to_,val⟩),⟨dm,hx1,by have:=hok.1;unfold iz at this;dsimp only at this ⊢;unfold bo;omega,hR⟩,by show l.length - (k + 1) < l.length - k;omega,(by dsimp only;exact(vm [(0,_),(1,_)] []))⟩
  ·rw [if_neg g2] at hR;dsimp only at hR;rw [b₁] at hR;simp only [a₀] at hR;obtain⟨rfl,rfl⟩:=hR;(iterate 6 ((all_goals(refine aa ?_));(all_goals(first | ((first | refine ag rfl rfl ?_ rfl ?_ | refine ad rfl ?_ ?_);all_goals(intro h;(try simp only [pl] at h);(try (exfalso;omega)))) | skip))));all_goals(refine au ?_;exact en [_,_])
 ·have hk':k=l.length:=by have:=oF h;omega
  subst hk';rw [b₂,jt] at hR;dsimp only at hR;rw [b₄] at hR;have hio:=pL (x:=⟨to_,amt⟩) ⟨hx1,hx2⟩;have hil:=np (x:=⟨to_,amt⟩) ⟨hx1,hx2⟩;have hto:=jr (n:=1) (s:=to_) om om 5000 hx1 om;have d1:=xL (G:=G) [] 1 to_ sm om;rw [c₁] at d1;have d2:=mn (G:=G) (bJ 1 to_) 2 amt om;dsimp only at hio hil;have d3:=nj (G:=G) (bJ 1 to_ ++ db 2 amt) (fun f hf=>(hio.1 f hf).1) om om;have d4:=sG (G:=G) (aF (bJ 1 to_ ++ db 2 amt)) b;unfold xK at d1 d2;by_cases he:e=0
  ·subst he;rw [decide_eq_true rfl,b₄] at hR;simp only [a₀] at hR;obtain⟨rfl,rfl⟩:=hR;generalize bJ 1 to_ ++ db 2 amt=li at *;generalize bJ 1 to_=lt at *;generalize aF li=mi at *;refine aa ?_;refine al [ae 0,ae 1,ae 2,ae 3,ae 4,ae 5,dj 6,ae 7,ae 8,dj 9,dj 10,ae 11,dj 12,ae 13,ae 14,ae 15] ?_;refine aa ?_;refine cK rfl aA rfl [] (d1) [] [] ⟨rfl,trivial,rfl,lm,mm⟩ rfl rfl rfl rfl ?_;refine aa ?_;refine cK rfl aA rfl [9] (d2) [(0,9)] [] ⟨rfl,trivial,rfl,lm,mm⟩ rfl rfl rfl rfl ?_;refine aa ?_;refine bQ rfl aA rfl [12] (d3) rfl [(12,li.length)] mm lm rfl ?_;refine aa ?_;refine cW (d4) ?_;refine au ?_;refine⟨[_,_],[],[],rfl,rfl,trivial,rfl,⟨?_,?_,trivial⟩,?_⟩
   ·exact .inl ⟨rfl,rfl⟩
   ·exact rv
   ·exact mm
  ·rw [decide_eq_false he,b₁] at hR;simp only [a₀] at hR;obtain⟨rfl,rfl⟩:=hR;refine aa ?_;refine al [ae 0,ae 1,ae 2,ae 3,ae 4,ae 5,dj 6,ae 7,ae 8,dj 9,dj 10,ae 11,dj 12,ae 13,ae 14,ae 15] ?_;refine aa ?_;refine eP rfl rfl ?_ rfl ?_ <;> intro h
   ·exfalso;have:(e:Int)=0:=by simpa using h
    omega
   refine aa ?_;refine au ?_;refine⟨[_,_],[],[],rfl,rfl,trivial,rfl,⟨?_,?_,trivial⟩,?_⟩
   ·exact .inl ⟨rfl,rfl⟩
   ·exact rv
   ·exact mm
end
section
variable {G:GS}
attribute [local irreducible] ak aB aD aI aN vC aW aw
def bL:List eE→je→je×Bool
 | [],t=>(t,true)
 | f :: r,t=>
  if f.num=1∧f.kind=2 then bL r ⟨f.bytes,t.seq,t.gas,t.fee,t.memo,t.trs⟩ else
  if f.num=2∧f.kind=0 then bL r ⟨t.sender,f.val,t.gas,t.fee,t.memo,t.trs⟩ else
  if f.num=3∧f.kind=0 then bL r ⟨t.sender,t.seq,f.val,t.fee,t.memo,t.trs⟩ else
  if f.num=4∧f.kind=0 then bL r ⟨t.sender,t.seq,t.gas,f.val,t.memo,t.trs⟩ else
  if f.num=5∧f.kind=2 then bL r ⟨t.sender,t.seq,t.gas,t.fee,f.bytes,t.trs⟩ else
  if f.num=6∧f.kind=2 then(if (dJ f.bytes).2 then bL r ⟨t.sender,t.seq,t.gas,t.fee,t.memo,t.trs ++ [(dJ f.bytes).1]⟩ else(t,false)) else(t,false)
def tx0:je:=⟨[],0,0,0,[],[]⟩
theorem uu: ∀(l:List eE) (x:lh),(∀f∈l,iz f∧f.bytes.length≤5000)→mo x→mo (jt l x).1
 | [],x,_,h=>h
 | f :: r,x,hl,h=>by
  have hf:=hl f sm
  rw [jt]
  split
  ·exact uu r _ (fun g hg=>hl g (by simp [hg])) ⟨hf.2,h.2⟩
  ·split
   ·exact uu r _ (fun g hg=>hl g (by simp [hg])) ⟨h.1,by have:=hf.1;unfold iz at this;unfold bo;dsimp only;omega⟩
   ·exact h
theorem xN {b:List UInt8} (hb:b.length≤5000):mo (dJ b).1:=by
 unfold dJ;have h:=eX b;have:=uu (aC b).1 ⟨[],0⟩ (fun f hf=>⟨(h.1 f hf).1,by have:=(h.1 f hf).2;omega⟩) ⟨sm,by simp [bo]⟩;generalize jt (aC b).1 ⟨[],0⟩=r at *;exact this
theorem ju: ∀(l:List eE) (t:je),(∀f∈l,iz f∧f.bytes.length≤5000)→t.trs.length + l.length≤5000→iL t→iL (bL l t).1
 | [],t,_,_,h=>h
 | f :: r,t,hl,hn,h=>by
  have hf:=hl f sm
  have hr: ∀g∈r,iz g∧g.bytes.length≤5000:=fun g hg=>hl g (by simp [hg])
  have hv:bo f.val:=by have:=hf.1;unfold iz at this;unfold bo;omega
  simp only [List.length_cons] at hn
  obtain⟨h1,h2,h3,h4,h5,h6,h7⟩:=h
  rw [bL]
  split
  ·exact ju r _ hr dm ⟨hf.2,h2,h3,h4,h5,h6,h7⟩
  split
  ·exact ju r _ hr dm ⟨h1,hv,h3,h4,h5,h6,h7⟩
  split
  ·exact ju r _ hr dm ⟨h1,h2,hv,h4,h5,h6,h7⟩
  split
  ·exact ju r _ hr dm ⟨h1,h2,h3,hv,h5,h6,h7⟩
  split
  ·exact ju r _ hr dm ⟨h1,h2,h3,h4,hf.2,h6,h7⟩
  split
  ·split
   ·exact ju r _ hr (by dsimp only;rw [a₆,a₃];omega) ⟨h1,h2,h3,h4,h5,by dsimp only;rw [a₆,a₃];omega,ez h7 fun x hx=>by rw [d₁.1 hx];exact xN hf.2⟩
   ·exact⟨h1,h2,h3,h4,h5,h6,h7⟩
  ·exact⟨h1,h2,h3,h4,h5,h6,h7⟩
theorem Me (l:List eE) (hl: ∀f∈l,iz f∧f.bytes.length≤5000) (hn:l.length≤1024):aQ Tryz.prog G 141 [.sl l.length (l.map bR)] [] 0 (.tup [nP (bL l tx0).1, .bool (bL l tx0).2]) [] 0:=by
 generalize hr:bL l tx0=r;obtain⟨R,okk⟩:=r;dsimp only;refine dw seat Tryz.func141 104 ?_;refine aa ?_;refine av (Nat×je) (fun x=> [(11, .int .i64 x.1),(10, .int .i64 l.length),(9, .sl l.length (l.map bR)),(4, .ptr 1 6 0 0 []),(2, .ptr 0 6 0 0 [])]) (fun x=> [(0,⟨98,6,false,0,[.st [.str [], .int .u64 0, .int .u64 0, .int .u64 0, .str [], .nils]]⟩),(1,⟨98,6,false,0,[.st [.str x.2.sender, .int .u64 x.2.seq, .int .u64 x.2.gas, .int .u64 x.2.fee, .str x.2.memo, .ms 2 2 0 x.2.trs.length]]⟩),(2,⟨95,2,true,0,x.2.trs.map lC⟩)]) 3 (fun x=>x.1≤l.length∧x.2.trs.length≤x.1∧bL (l.drop x.1) x.2=(R,okk)) (fun x=>l.length - x.1) (0,tx0) ⟨a₈ _,a₈ _,by dsimp only;rw [a₉];exact hr⟩ (by dsimp only;exact(vm [(0,_),(1,_)] [])) ?_;rintro⟨k,t⟩ ⟨hk,ht,hR⟩;obtain⟨sender,seq,gas,fee,memo,trs⟩:=t;try dsimp only
 dsimp only at hk ht hR;refine aa ?_;refine ad rfl ?_ ?_ <;> intro h
 ·have hk':k < l.length:=by have:=ot h;omega
  have hok:=hl _ (b₇ hk');have hel:=nf hk';rw [a₄ hk'] at hR;generalize l[k] =f at *;obtain⟨num,kind,val,bytes⟩:=f;replace hel:bF (l.map bR) l.length (k:Int)=some (.st [.int .i64 num, .int .i64 kind, .int .u64 val, .sl bytes.length (u8s bytes)]):=hel;have hel:=aj.mk hel;have hby:=aj.mk (fO bytes);rw [bL] at hR;dsimp only at hR hok;by_cases g1:num=1∧kind=2
  ·rw [if_pos g1] at hR;obtain⟨rfl,rfl⟩:=g1;(iterate 4 ((all_goals(refine aa ?_));(all_goals(first | ((first | refine ag rfl rfl ?_ rfl ?_ | refine ad rfl ?_ ?_);all_goals(intro h;(try simp only [pl] at h);(try (exfalso;omega)))) | skip))));exact⟨(k + 1,⟨bytes,seq,gas,fee,memo,trs⟩),⟨dm,dm,hR⟩,by show l.length - (k + 1) < l.length - k;omega,(by dsimp only;exact(vm [(0,_),(1,_),(2,_)] []))⟩
  rw [if_neg g1] at hR;by_cases g2:num=2∧kind=0
  ·rw [if_pos g2] at hR;obtain⟨rfl,rfl⟩:=g2;(iterate 6 ((all_goals(refine aa ?_));(all_goals(first | ((first | refine ag rfl rfl ?_ rfl ?_ | refine ad rfl ?_ ?_);all_goals(intro h;(try simp only [pl] at h);(try (exfalso;omega)))) | skip))));exact⟨(k + 1,⟨sender,val,gas,fee,memo,trs⟩),⟨dm,dm,hR⟩,by show l.length - (k + 1) < l.length - k;omega,(by dsimp only;exact(vm [(0,_),(1,_),(2,_)] []))⟩
  rw [if_neg g2] at hR;by_cases g3:num=3∧kind=0
  ·rw [if_pos g3] at hR;obtain⟨rfl,rfl⟩:=g3;(iterate 8 ((all_goals(refine aa ?_));(all_goals(first | ((first | refine ag rfl rfl ?_ rfl ?_ | refine ad rfl ?_ ?_);all_goals(intro h;(try simp only [pl] at h);(try (exfalso;omega)))) | skip))));exact⟨(k + 1,⟨sender,seq,val,fee,memo,trs⟩),⟨dm,dm,hR⟩,by show l.length - (k + 1) < l.length - k;omega,(by dsimp only;exact(vm [(0,_),(1,_),(2,_)] []))⟩
  rw [if_neg g3] at hR;by_cases g4:num=4∧kind=0
  ·rw [if_pos g4] at hR;obtain⟨rfl,rfl⟩:=g4;(iterate 10 ((all_goals(refine aa ?_));(all_goals(first | ((first | refine ag rfl rfl ?_ rfl ?_ | refine ad rfl ?_ ?_);all_goals(intro h;(try simp only [pl] at h);(try (exfalso;omega)))) | skip))));exact⟨(k + 1,⟨sender,seq,gas,val,memo,trs⟩),⟨dm,dm,hR⟩,by show l.length - (k + 1) < l.length - k;omega,(by dsimp only;exact(vm [(0,_),(1,_),(2,_)] []))⟩
  rw [if_neg g4] at hR;by_cases g5:num=5∧kind=2
  ·rw [if_pos g5] at hR;obtain⟨rfl,rfl⟩:=g5;(iterate 12 ((all_goals(refine aa ?_));(all_goals(first | ((first | refine ag rfl rfl ?_ rfl ?_ | refine ad rfl ?_ ?_);all_goals(intro h;(try simp only [pl] at h);(try (exfalso;omega)))) | skip))));exact⟨(k + 1,⟨sender,seq,gas,fee,bytes,trs⟩),⟨dm,dm,hR⟩,by show l.length - (k + 1) < l.length - k;omega,(by dsimp only;exact(vm [(0,_),(1,_),(2,_)] []))⟩
  rw [if_neg g5] at hR;by_cases g6:num=6∧kind=2
  ·rw [if_pos g6] at hR;obtain⟨rfl,rfl⟩:=g6;have c1:=BQ (G:=G) bytes hok.2;generalize dJ bytes=q at *;obtain⟨x,b⟩:=q;dsimp only at c1 hR;cases b with
   | false=>
    rw [if_neg sm] at hR;simp only [a₀] at hR;obtain⟨rfl,rfl⟩:=hR;(iterate 16 ((all_goals(refine aa ?_));(all_goals(first | (refine ah rfl aA rfl (c1) rfl rfl ?_) | ((first | refine ag rfl rfl ?_ rfl ?_ | refine ad rfl ?_ ?_);all_goals(intro h;(try simp only [pl] at h);(try (exfalso;omega)))) | skip))));all_goals(refine au ?_;(refine⟨[_,_],[],[(2,trs.length)],rfl,rfl,?_,rfl,⟨?_,?_,trivial⟩,?_⟩;(exact⟨(show trs.length≤(trs.map lC).length by simp),trivial⟩);(exact .inr ⟨_,rfl,lm⟩);exact rv;exact mm))
   | true=>
    rw [if_pos rfl] at hR;(iterate 10 ((all_goals(refine aa ?_));(all_goals(first | (refine ah rfl aA rfl (c1) rfl rfl ?_) | ((first | refine ag rfl rfl ?_ rfl ?_ | refine ad rfl ?_ ?_);all_goals(intro h;(try simp only [pl] at h);(try (exfalso;omega)))) | skip))));refine aL rfl rfl (by intro R hR;refine cI hR ?_;(refine a₂ (c₂ _) ?_;refine⟨_,rfl,?_⟩;refine a₂ ⟨sm,ai (by kernel_rfl) pf⟩ ?_;refine⟨(trs ++ [x]).map lC,sv (by simp;rfl),trs.length + 1,sv pf,?_⟩);exact hR) rfl ?_;refine aa ?_;exact⟨(k + 1,⟨sender,seq,gas,fee,memo,trs ++ [x]⟩),⟨dm,by dsimp only;rw [a₆,a₃];omega,hR⟩,by show l.length - (k + 1) < l.length - k;omega,(by dsimp only;rw [a₆,a₃];exact(vm [(0,_),(1,_),(2,_)] []))⟩
  ·rw [if_neg g6] at hR;simp only [a₀] at hR;obtain⟨rfl,rfl⟩:=hR;(iterate 14 ((all_goals(refine aa ?_));(all_goals(first | ((first | refine ag rfl rfl ?_ rfl ?_ | refine ad rfl ?_ ?_);all_goals(intro h;(try simp only [pl] at h);(try (exfalso;omega)))) | skip))));all_goals(refine au ?_;(refine⟨[_,_],[],[(2,trs.length)],rfl,rfl,?_,rfl,⟨?_,?_,trivial⟩,?_⟩;(exact⟨(show trs.length≤(trs.map lC).length by simp),trivial⟩);(exact .inr ⟨_,rfl,lm⟩);exact rv;exact mm))
 ·have hk':k=l.length:=by have:=oF h;omega
  subst hk';rw [b₂,bL] at hR;simp only [a₀] at hR;obtain⟨rfl,rfl⟩:=hR;refine aa ?_;all_goals(refine au ?_;(refine⟨[_,_],[],[(2,trs.length)],rfl,rfl,?_,rfl,⟨?_,?_,trivial⟩,?_⟩;(exact⟨(show trs.length≤(trs.map lC).length by simp),trivial⟩);(exact .inr ⟨_,rfl,lm⟩);exact rv;exact mm))
end
section
variable {G:GS}
attribute [local irreducible] ak aB aD aI aN vC aW aw
def aS (raw:List UInt8):je×Nat:=
 if 4096 < raw.length then(tx0,3) else
 if (aC raw).2.2≠0∨(bL (aC raw).1 tx0).2=false∨fk (bL (aC raw).1 tx0).1≠raw then(tx0,4) else
 if dG (bL (aC raw).1 tx0).1≠0 then(tx0,dG (bL (aC raw).1 tx0).1) else((bL (aC raw).1 tx0).1,0)
theorem uw:iL tx0:=⟨by simp [tx0],by simp [tx0,bo],by simp [tx0,bo],by simp [tx0,bo],by simp [tx0],by simp [tx0],by simp [tx0]⟩
theorem Lx {raw:List UInt8} (h:raw.length≤4096):iL (bL (aC raw).1 tx0).1:=by
 have hf:=eX raw;refine ju _ tx0 (fun f hm=>⟨(hf.1 f hm).1,by have:=(hf.1 f hm).2;omega⟩) ?_ uw
 show 0 + _≤_
 omega
theorem ux (raw:List UInt8) (hraw:raw.length≤140737488355328):aQ Tryz.prog G 91 [.sl raw.length (u8s raw)] [] 0 (.tup [nP (aS raw).1, .int .i64 (aS raw).2]) [] 0:=by
 generalize hr:aS raw=r;obtain⟨R,code⟩:=r;dsimp only;unfold aS at hr;by_cases h1:4096 < raw.length
 ·rw [if_pos h1] at hr;simp only [a₀] at hr;obtain⟨rfl,rfl⟩:=hr;refine dw seat Tryz.func91 46 ?_;refine aa ?_;(iterate 4 ((all_goals(refine aa ?_));(all_goals(first | ((first | refine ag rfl rfl ?_ rfl ?_ | refine ad rfl ?_ ?_);all_goals(intro h;(try simp only [pl] at h);(try (exfalso;omega)))) | skip))));all_goals(refine au ?_;exact en [_,_])
 rw [if_neg h1] at hr;have c1:=pH (G:=G) raw om;have hf:=eX raw;have c2:=Me (G:=G) (aC raw).1 (fun f hm=>⟨(hf.1 f hm).1,by have:=(hf.1 f hm).2;omega⟩) hf.2;have hsm:=Lx (raw:=raw) om;have c3:=Ht (G:=G) _ hsm;have c4:=sG (G:=G) (fk (bL (aC raw).1 tx0).1) raw;have c5:=wk (G:=G) _ hsm;clear hf hsm;generalize aC raw=F at *;obtain⟨l,at_,e⟩:=F;dsimp only at c1 c2 c3 c4 c5 hr;generalize bL l tx0=T at *;obtain⟨t,ok⟩:=T;dsimp only at c1 c2 c3 c4 c5 hr;generalize fk t=fs at *;generalize dG t=vt at *;have hb:(fs == raw)=true↔fs=raw:=sm;generalize (fs == raw)=b at *;by_cases he:e=0
 ·subst he;cases ok with
  | false=>
   rw [if_pos sm] at hr;simp only [a₀] at hr;obtain⟨rfl,rfl⟩:=hr;refine dw seat Tryz.func91 46 ?_;refine aa ?_;(iterate 12 ((all_goals(refine aa ?_));(all_goals(first | (refine ah rfl aA rfl (c1) rfl rfl ?_) | (refine ah rfl aA rfl (c2) rfl rfl ?_) | (refine ah rfl aA rfl (c3) rfl rfl ?_) | (refine ah rfl aA rfl (src (c4)) rfl rfl ?_) | (refine ah rfl aA rfl (src (c5)) rfl rfl ?_) | ((first | refine ag rfl rfl ?_ rfl ?_ | refine ad rfl ?_ ?_);all_goals(intro h;(try simp only [pl] at h);(try (exfalso;omega)))) | skip))));all_goals(refine au ?_;exact en [_,_])
  | true=>
   cases b with
   | false=>
    have hne:fs≠raw:=fun e=>by have:=hb.2 e;simp at this
    rw [if_pos (by simp [hne])] at hr;simp only [a₀] at hr;obtain⟨rfl,rfl⟩:=hr;refine dw seat Tryz.func91 46 ?_;refine aa ?_;(iterate 12 ((all_goals(refine aa ?_));(all_goals(first | (refine ah rfl aA rfl (c1) rfl rfl ?_) | (refine ah rfl aA rfl (c2) rfl rfl ?_) | (refine ah rfl aA rfl (c3) rfl rfl ?_) | (refine ah rfl aA rfl (src (c4)) rfl rfl ?_) | (refine ah rfl aA rfl (src (c5)) rfl rfl ?_) | ((first | refine ag rfl rfl ?_ rfl ?_ | refine ad rfl ?_ ?_);all_goals(intro h;(try simp only [pl] at h);(try (exfalso;omega)))) | skip))));all_goals(refine au ?_;exact en [_,_])
   | true=>
    have heq:fs=raw:=hb.1 rfl;rw [if_neg (by simp [heq])] at hr;by_cases hv:vt=0
    ·subst hv;rw [if_neg sm] at hr;simp only [a₀] at hr;obtain⟨rfl,rfl⟩:=hr;refine dw seat Tryz.func91 46 ?_;refine aa ?_;(iterate 12 ((all_goals(refine aa ?_));(all_goals(first | (refine ah rfl aA rfl (c1) rfl rfl ?_) | (refine ah rfl aA rfl (c2) rfl rfl ?_) | (refine ah rfl aA rfl (c3) rfl rfl ?_) | (refine ah rfl aA rfl (src (c4)) rfl rfl ?_) | (refine ah rfl aA rfl (src (c5)) rfl rfl ?_) | ((first | refine ag rfl rfl ?_ rfl ?_ | refine ad rfl ?_ ?_);all_goals(intro h;(try simp only [pl] at h);(try (exfalso;omega)))) | skip))));all_goals(refine au ?_;exact en [_,_])
    ·rw [if_pos hv] at hr;simp only [a₀] at hr;obtain⟨rfl,rfl⟩:=hr;refine dw seat Tryz.func91 46 ?_;refine aa ?_;(iterate 12 ((all_goals(refine aa ?_));(all_goals(first | (refine ah rfl aA rfl (c1) rfl rfl ?_) | (refine ah rfl aA rfl (c2) rfl rfl ?_) | (refine ah rfl aA rfl (c3) rfl rfl ?_) | (refine ah rfl aA rfl (src (c4)) rfl rfl ?_) | (refine ah rfl aA rfl (src (c5)) rfl rfl ?_) | ((first | refine ag rfl rfl ?_ rfl ?_ | refine ad rfl ?_ ?_);all_goals(intro h;(try simp only [pl] at h);(try (exfalso;omega)))) | skip))));all_goals(refine au ?_;exact en [_,_])
 ·rw [if_pos (.inl he)] at hr;simp only [a₀] at hr;obtain⟨rfl,rfl⟩:=hr;refine dw seat Tryz.func91 46 ?_;refine aa ?_;(iterate 12 ((all_goals(refine aa ?_));(all_goals(first | (refine ah rfl aA rfl (c1) rfl rfl ?_) | (refine ah rfl aA rfl (c2) rfl rfl ?_) | (refine ah rfl aA rfl (c3) rfl rfl ?_) | (refine ah rfl aA rfl (src (c4)) rfl rfl ?_) | (refine ah rfl aA rfl (src (c5)) rfl rfl ?_) | ((first | refine ag rfl rfl ?_ rfl ?_ | refine ad rfl ?_ ?_);all_goals(intro h;(try simp only [pl] at h);(try (exfalso;omega)))) | skip))));all_goals(refine au ?_;exact en [_,_])
end
section
variable {G:GS}
attribute [local irreducible] ak aB aD aI aN vC aW aw
structure bf where
 name:List UInt8
 bal:Nat
 seq:Nat
def aT (a:bf):MV:= .st [.str a.name, .int .u64 a.bal, .int .u64 a.seq]
def SmAc (a:bf):Prop:=a.name.length≤5000∧bo a.bal∧bo a.seq
def ac0:bf:=⟨[],0,0⟩
structure dK where
 acs:List bf
 col:Nat
def eh (l:dK):MV:= .st [.sl l.acs.length (l.acs.map aT), .int .u64 l.col]
def iM (a b:Nat):Nat×Bool:=if a + b < 18446744073709551616 then(a + b,true) else(0,false)
theorem eZ {l:List bf} {k:Nat} (hk:k < l.length):bF (l.map aT) l.length (k:Int)=some (aT l[k]):=cO hk (by simp [hk])
theorem Ly (a b:Nat) (ha:bo a) (hb:bo b):aE Tryz.prog G 127 [.int .u64 a, .int .u64 b] (.tup [.int .u64 (iM a b).1, .bool (iM a b).2]):=by
 unfold bo at ha hb;generalize hr:iM a b=r;obtain⟨R,okk⟩:=r;unfold iM at hr;dsimp only;split at hr
 ·rename_i h;simp only [a₀] at hr;obtain⟨rfl,rfl⟩:=hr;refine bA seat Tryz.func127 13 ?_;refine aa ?_;(iterate 4 ((all_goals(refine aa ?_));(all_goals(first | ((first | refine ag rfl rfl ?_ rfl ?_ | refine ad rfl ?_ ?_);all_goals(intro h;(try simp only [pl] at h);(try (exfalso;omega)))) | skip))));all_goals(refine au ?_)
  all_goals rfl
 ·rename_i h;simp only [a₀] at hr;obtain⟨rfl,rfl⟩:=hr;refine bA seat Tryz.func127 13 ?_;refine aa ?_;(iterate 4 ((all_goals(refine aa ?_));(all_goals(first | ((first | refine ag rfl rfl ?_ rfl ?_ | refine ad rfl ?_ ?_);all_goals(intro h;(try simp only [pl] at h);(try (exfalso;omega)))) | skip))));all_goals(refine au ?_)
  all_goals rfl
def fG (name:List UInt8):List bf→Nat→Int
 | [],_=> -1
 | a :: r,i=>if a.name=name then i else fG name r (i + 1)
theorem xO (l:List bf) (name:List UInt8) (hl:l.length≤1000000):aE Tryz.prog G 80 [.sl l.length (l.map aT), .str name] (.int .i64 (fG name l 0)):=by
 generalize hr:fG name l 0=R;refine bA seat Tryz.func80 20 ?_;refine aa ?_;refine av Nat (fun k=> [(9, .int .i64 k),(8, .int .i64 l.length),(7, .sl l.length (l.map aT)),(1, .str name)]) (fun _=> []) 0 (fun k=>k≤l.length∧fG name (l.drop k) k=R) (fun k=>l.length - k) 0 ⟨a₈ _,by rw [a₉];exact hr⟩ (vm [] []) ?_;rintro k ⟨hk,hR⟩;try dsimp only
 refine aa ?_;refine ad rfl ?_ ?_ <;> intro h
 ·have hk':k < l.length:=by have:=ot h;omega
  have hel:=eZ hk';rw [a₄ hk',fG] at hR;generalize l[k] =a at *;obtain⟨nm,bal,seq⟩:=a;replace hel:bF (l.map aT) l.length (k:Int)=some (.st [.str nm, .int .u64 bal, .int .u64 seq]):=hel;have hel:=aj.mk hel;dsimp only at hR;by_cases he:nm=name
  ·rw [if_pos he] at hR;subst he;subst hR;refine He ?_;refine au ?_;rfl
  ·rw [if_neg he] at hR;refine aa ?_;refine ad rfl ?_ ?_ <;> intro h
   ·exact absurd (eq_of_beq h) he
   ·refine aa ?_;exact⟨k + 1,⟨by show k + 1≤l.length;omega,hR⟩,by show l.length - (k + 1) < l.length - k;omega,(by dsimp only;exact(vm [] []))⟩
 ·have hk':k=l.length:=by have:=oF h;omega
  subst hk';rw [b₂,fG] at hR;subst hR;refine aa ?_;refine au ?_;rfl
end
section
variable {G:GS}
attribute [local irreducible] ak aB aD aI aN vC aW aw
def limS (n:Int):Nat:=(max 0 (min n 1073741824)).toNat
theorem wo (n:Int) (hn: -9223372036854775808≤n∧n < 9223372036854775808):aE Tryz.prog G 204 [.int .i64 n] (.int .u64 (limS n)):=by
 refine bA seat Tryz.func204 7 ?_;refine aa ?_;refine au ?_;refine congrArg (MV.int .u64) ?_;unfold limS;split <;> split <;> omega
def kx (a b:Nat):Nat×Bool:=if a * b < 18446744073709551616 then(a * b,true) else(0,false)
theorem NY (a b:Nat) (ha:bo a) (hb:bo b):aE Tryz.prog G 205 [.int .u64 a, .int .u64 b] (.tup [.int .u64 (kx a b).1, .bool (kx a b).2]):=by
 unfold bo at ha hb;have hq:0 < a→(18446744073709551615 / a < b↔18446744073709551615 < b * a):=fun h=>Nat.div_lt_iff_lt_mul h
 have hm:a=0→a * b=0:=fun h=>by rw [h,Nat.zero_mul]
 rw [Nat.mul_comm b a] at hq;have f1:=aU.mk (show IntKind.u64.wrap ((18446744073709551615:Int).tdiv (a:Int))=((18446744073709551615 / a:Nat):Int) from zP (a:=18446744073709551615) a om);have f2:a * b < 18446744073709551616→IntKind.u64.wrap ((a:Int) * (b:Int))=((a * b:Nat):Int):=fun h=>by
  rw [← Int.natCast_mul];exact bM _ om om
 have hz:(18446744073709551615 / a:Nat) < 18446744073709551616:=Nat.lt_of_le_of_lt (Nat.div_le_self _ _) om;generalize hr:kx a b=r;obtain⟨R,okk⟩:=r;unfold kx at hr;generalize a * b=m at *;generalize 18446744073709551615 / a=q at *;dsimp only;by_cases h:m < 18446744073709551616
 ·rw [if_pos h] at hr;simp only [a₀] at hr;obtain⟨rfl,rfl⟩:=hr;have f2:=aU.mk (f2 h);refine bA seat Tryz.func205 17 ?_;refine aa ?_;(iterate 6 ((all_goals(refine aa ?_));(all_goals(first | ((first | refine ag rfl rfl ?_ rfl ?_ | refine ad rfl ?_ ?_);all_goals(intro h;(try simp only [pl] at h);(try (exfalso;omega)))) | skip))));all_goals(refine au ?_)
  all_goals rfl
 ·rw [if_neg h] at hr;simp only [a₀] at hr;obtain⟨rfl,rfl⟩:=hr;refine bA seat Tryz.func205 17 ?_;refine aa ?_;(iterate 6 ((all_goals(refine aa ?_));(all_goals(first | ((first | refine ag rfl rfl ?_ rfl ?_ | refine ad rfl ?_ ?_);all_goals(intro h;(try simp only [pl] at h);(try (exfalso;omega)))) | skip))));all_goals(refine au ?_)
  all_goals rfl
def mz (size trs:Int):Nat:=50 + limS size + 20 * limS trs
theorem Mf (x y:Int) (hx: -9223372036854775808≤x∧x < 9223372036854775808) (hy: -9223372036854775808≤y∧y < 9223372036854775808):aE Tryz.prog G 144 [.int .i64 x, .int .i64 y] (.int .u64 (mz x y)):=by
 have c1:=wo (G:=G) x hx;have c2:=wo (G:=G) y hy;have l1:limS x≤1073741824:=by unfold limS;omega
 have l2:limS y≤1073741824:=by unfold limS;omega
 unfold mz;generalize limS x=u at *;generalize limS y=v at *;refine bA seat Tryz.func144 13 ?_;refine aa ?_;(iterate 4 ((all_goals(refine aa ?_));(all_goals(first | (refine ah rfl aA rfl (src (c1)) rfl rfl ?_) | (refine ah rfl aA rfl (src (c2)) rfl rfl ?_) | ((first | refine ag rfl rfl ?_ rfl ?_ | refine ad rfl ?_ ?_);all_goals(intro h;(try simp only [pl] at h);(try (exfalso;omega)))) | skip))));all_goals(refine au ?_)
 refine congrArg (MV.int .u64) ?_;omega
end
section
variable {G:GS}
attribute [local irreducible] ak aB aD aI aN vC aW aw
def bz (l:List bf) (name:List UInt8):bf×Bool:=match l.find? (fun a=>decide (a.name=name)) with
 | some a=>(a,true)
 | none=>(ac0,false)
theorem ln (name:List UInt8): ∀(l:List bf) (i:Nat),(fG name l i= -1∧l.find? (fun a=>decide (a.name=name))=none)∨∃k a,fG name l i=((i + k:Nat):Int)∧l[k]? =some a∧l.find? (fun a=>decide (a.name=name))=some a
 | [],i=> .inl ⟨rfl,rfl⟩
 | a :: r,i=>by
  by_cases h:a.name=name
  ·exact .inr ⟨0,a,by rw [fG,if_pos h];rfl,rfl,by simp [h]⟩
  ·have hf:(a :: r).find? (fun a=>decide (a.name=name))=r.find? (fun a=>decide (a.name=name)):=by simp [h]
   rw [fG,if_neg h,hf]
   rcases ln name r (i + 1) with h1 | ⟨k,b,h1,h2,h3⟩
   ·exact .inl h1
   ·exact .inr ⟨k + 1,b,by rw [h1];omega,by simpa using h2,h3⟩
theorem LA (l:List bf) (col:Nat) (name:List UInt8) (hl:l.length≤1000000):aE Tryz.prog G 143 [.st [.sl l.length (l.map aT), .int .u64 col], .str name] (.tup [aT (bz l name).1, .bool (bz l name).2]):=by
 have c1:=xO (G:=G) l name hl;rcases ln name l 0 with ⟨h1,h2⟩ | ⟨k,a,h1,h2,h3⟩
 ·rw [h1] at c1;have e:bz l name=(ac0,false):=by unfold bz;rw [h2]
  rw [e];refine bA seat Tryz.func143 19 ?_;refine aa ?_;(iterate 6 ((all_goals(refine aa ?_));(all_goals(first | (refine ah rfl aA rfl (src (c1)) rfl rfl ?_) | ((first | refine ag rfl rfl ?_ rfl ?_ | refine ad rfl ?_ ?_);all_goals(intro h;(try simp only [pl] at h);(try (exfalso;omega)))) | skip))));all_goals(refine au ?_)
  all_goals rfl
 ·rw [h1,a₅] at c1;have e:bz l name=(a,true):=by unfold bz;rw [h3]
  rw [e];obtain⟨hk,ha⟩:=c₃.1 h2;have hel:=eZ hk;rw [ha] at hel;obtain⟨nm,bal,seq⟩:=a;replace hel:bF (l.map aT) l.length (k:Int)=some (.st [.str nm, .int .u64 bal, .int .u64 seq]):=hel;have hel:=aj.mk hel;clear h1 h2 h3 e ha;refine bA seat Tryz.func143 19 ?_;refine aa ?_;(iterate 6 ((all_goals(refine aa ?_));(all_goals(first | (refine ah rfl aA rfl (src (c1)) rfl rfl ?_) | ((first | refine ag rfl rfl ?_ rfl ?_ | refine ad rfl ?_ ?_);all_goals(intro h;(try simp only [pl] at h);(try (exfalso;omega)))) | skip))));all_goals(refine au ?_)
  all_goals rfl
def totS:List bf→Nat→Nat×Bool
 | [],s=>(s,true)
 | a :: r,s=>if (iM s a.bal).2 then totS r (iM s a.bal).1 else(0,false)
theorem uy {a b:Nat}:bo (iM a b).1:=by
 unfold iM bo;split
 ·assumption
 ·show 0 < _;omega
theorem C0 (l:List bf) (col:Nat) (hc:bo col) (hl:l.length≤1000000) (hs: ∀a∈l,bo a.bal):aE Tryz.prog G 82 [.st [.sl l.length (l.map aT), .int .u64 col]] (.tup [.int .u64 (totS l col).1, .bool (totS l col).2]):=by
 generalize hr:totS l col=r;obtain⟨R,okk⟩:=r;dsimp only;refine bA seat Tryz.func82 30 ?_;refine aa ?_;refine av (Nat×Nat) (fun x=> [(14, .int .i64 x.1),(13, .int .i64 l.length),(12, .sl l.length (l.map aT)),(4, .int .u64 x.2)]) (fun _=> []) 0 (fun x=>x.1≤l.length∧bo x.2∧totS (l.drop x.1) x.2=(R,okk)) (fun x=>l.length - x.1) (0,col) ⟨a₈ _,hc,by rw [a₉];exact hr⟩ (by dsimp only;exact(vm [] [])) ?_;rintro⟨k,s⟩ ⟨hk,hsU,hR⟩;try dsimp only
 dsimp only at hk hsU hR;refine aa ?_;refine ad rfl ?_ ?_ <;> intro h
 ·have hk':k < l.length:=by have:=ot h;omega
  have hel:=eZ hk';have hb:=hs _ (b₇ hk');rw [a₄ hk',totS] at hR;generalize l[k] =a at *;obtain⟨nm,bal,seq⟩:=a;replace hel:bF (l.map aT) l.length (k:Int)=some (.st [.str nm, .int .u64 bal, .int .u64 seq]):=hel;have hel:=aj.mk hel;dsimp only at hR hb;have c1:=Ly (G:=G) s bal hsU hb;have hU:= @uy s bal;generalize iM s bal=p at *;obtain⟨v,b⟩:=p;dsimp only at c1 hR hU;cases b with
  | true=>
   rw [if_pos rfl] at hR;refine aa ?_;(iterate 6 ((all_goals(refine aa ?_));(all_goals(first | (refine ah rfl aA rfl (src (c1)) rfl rfl ?_) | ((first | refine ag rfl rfl ?_ rfl ?_ | refine ad rfl ?_ ?_);all_goals(intro h;(try simp only [pl] at h);(try (exfalso;omega)))) | skip))));exact⟨(k + 1,v),⟨by show k + 1≤l.length;omega,hU,hR⟩,by show l.length - (k + 1) < l.length - k;omega,(by dsimp only;exact(vm [] []))⟩
  | false=>
   rw [if_neg sm] at hR;simp only [a₀] at hR;obtain⟨rfl,rfl⟩:=hR;refine aa ?_;(iterate 6 ((all_goals(refine aa ?_));(all_goals(first | (refine ah rfl aA rfl (src (c1)) rfl rfl ?_) | ((first | refine ag rfl rfl ?_ rfl ?_ | refine ad rfl ?_ ?_);all_goals(intro h;(try simp only [pl] at h);(try (exfalso;omega)))) | skip))));all_goals(refine au ?_)
   all_goals rfl
 ·have hk':k=l.length:=by have:=oF h;omega
  subst hk';rw [b₂,totS] at hR;simp only [a₀] at hR;obtain⟨rfl,rfl⟩:=hR;refine aa ?_;refine au ?_;rfl
end
section
variable {G:GS}
attribute [local irreducible] ak aB aD aI aN vC aW aw
def pN (a:bf):List bf→List bf
 | [] => [a]
 | b :: r=>if Op.bytesLess b.name a.name then b :: pN a r else a :: b :: r
def fH (a:bf) (l:List bf):List bf:=if 0≤fG a.name l 0 then l.set (fG a.name l 0).toNat a else pN a l
theorem xP (a:bf): ∀(l:List bf) (k:Nat),k≤l.length→(∀j (hj:j < l.length),j < k→Op.bytesLess l[j].name a.name=true)→(∀hk:k < l.length,Op.bytesLess l[k].name a.name=false)→pN a l=l.take k ++ a :: l.drop k
 | [],k,h,_,_=>by
  have:k=0:=by simpa using h
  subst this;rfl
 | b :: r,0,_,_,h2=>by
  have:=h2 sm
  simp only [c₉] at this
  rw [pN,if_neg (by rw [this];simp)]
  rfl
 | b :: r,k + 1,h,h1,h2=>by
  have hb:=h1 0 sm om
  simp only [c₉] at hb
  rw [pN,if_pos hb,xP a r k (by simpa using h) (fun j hj hjk=>by have:=h1 (j + 1) (by simpa using hj) om;simpa using this) (fun hk=>by have:=h2 (by simpa using hk);simpa using this)]
  rfl
theorem lp (l:List bf):aY (l.map aT) 3=true:=by cases l <;> rfl
theorem uz (a:bf): ∀l,(pN a l).length=l.length + 1
 | [] =>rfl
 | b :: r=>by
  rw [pN]
  split
  ·simp [uz a r]
  ·simp
theorem mA (a:bf) (l:List bf):(fH a l).length≤l.length + 1:=by
 unfold fH;split
 ·simp
 ·rw [uz];omega
theorem HB (a:bf) (l:List bf) (hl:l.length≤1000000):aQ Tryz.prog G 81 [.sl l.length (l.map aT),aT a] [] 0 (.sl (fH a l).length ((fH a l).map aT)) [] 0:=by
 have c1:=xO (G:=G) l a.name hl;obtain⟨nm,bal,seq⟩:=a;dsimp only at c1;have hspec:=ln nm l 0;have hput:fH ⟨nm,bal,seq⟩ l=if 0≤fG nm l 0 then l.set (fG nm l 0).toNat ⟨nm,bal,seq⟩ else pN ⟨nm,bal,seq⟩ l:=rfl
 by_cases hf:fG nm l 0= -1
 ·rw [hf] at c1 hput;rw [if_neg om] at hput;rw [hput];clear hspec hf hput;have hins:=xP ⟨nm,bal,seq⟩ l;have hil:=uz ⟨nm,bal,seq⟩ l;dsimp only at hins;generalize pN ⟨nm,bal,seq⟩ l=Z at *;refine dw seat Tryz.func81 50 ?_;refine aa ?_;(iterate 3 ((all_goals(refine aa ?_));(all_goals(first | (refine ah rfl aA rfl (src (c1)) rfl rfl ?_) | ((first | refine ag rfl rfl ?_ rfl ?_ | refine ad rfl ?_ ?_);all_goals(intro h;(try simp only [pl] at h);(try (exfalso;omega)))) | skip))));refine av Nat (fun k=> [(7, .int .i64 k),(3, .ptr 0 3 0 0 []),(0, .sl l.length (l.map aT))]) (fun _=> [(0,⟨91,3,false,0,[.st [.str nm, .int .u64 bal, .int .u64 seq]]⟩)]) 1 (fun k=>k≤l.length∧∀j (hj:j < l.length),j < k→Op.bytesLess l[j].name nm=true) (fun k=>l.length - k) 0 ⟨a₈ _,fun j hj h=>absurd h (Nat.not_lt_zero _)⟩ (vm [(0,_)] []) ?_;rintro k ⟨hki,hpre⟩;try dsimp only
  have step: ∀hk:k < l.length,Op.bytesLess l[k].name nm=true→(k + 1≤l.length∧∀j (hj:j < l.length),j < k + 1→Op.bytesLess l[j].name nm=true):=fun hk hb=>⟨om,fun j hj hjk=>by
   rcases b₅ j k with h | h
   ·exact hpre j hj h
   ·have:j=k:=om;subst this;exact hb⟩
  have done:(∀hk:k < l.length,Op.bytesLess l[k].name nm=false)→Z=l.take k ++ ⟨nm,bal,seq⟩ :: l.drop k:=fun h=>hins k hki hpre h
  clear hins;refine aa ?_;refine al [ae 0,ae 1,ae 2,ae 3,ae 4,ae 5,ae 6,ae 7,ae 8,ae 9,ae 10,ae 11,ae 12,ae 13] ?_;refine aa ?_;refine eP rfl rfl ?_ rfl ?_ <;> intro h
  ·have hk:k < l.length:=by have:=ot h;omega
   have hel:=eZ hk;replace step:=step hk;generalize he:l[k] =b at *;obtain⟨nm',bal',seq'⟩:=b;replace hel:bF (l.map aT) l.length (k:Int)=some (.st [.str nm', .int .u64 bal', .int .u64 seq']):=hel;have hel:=aj.mk hel;dsimp only at step;refine aa ?_;refine ad rfl ?_ ?_ <;> intro h
   ·refine aa ?_;exact⟨k + 1,step h,by show l.length - (k + 1) < l.length - k;omega,(by dsimp only;exact(vm [(0,_)] []))⟩
   ·have hfin:=done (fun _=>by rw [he];exact h);have fb1:=aj.mk (jo (κ:= .i64) hki);have fb2:=aj.mk (fW (κ:= .i64) hki);have fb3:=bE.mk (lp l);refine aa ?_;refine al [ae 0,ae 1,ae 2,ae 3,ae 4,ae 5,ae 6,ae 7,ae 8,ae 9,ae 10,ae 11,ae 12] ?_;refine aa ?_;refine aZ rfl (by intro R hR;refine cI hR ?_;refine a₂ ((by show aY (cutL _ 0 k) 3=true;rw [cut_take];exact lp _)) ?_;refine a₂ ⟨rfl,ai (by kernel_rfl) pf⟩ ?_;refine⟨(l.take k).map aT,sv (by show [] ++ cutL _ 0 k=_;rw [c₁,cut_take]),k,sv pf,?_⟩;exact hR) rfl ?_;refine aa ?_;refine aZ rfl (by intro R hR;refine cI hR ?_;(refine a₂ (c₂ _) ?_;refine⟨_,rfl,?_⟩;refine a₂ ⟨(by simp <;> omega),ai (by kernel_rfl) pf⟩ ?_;refine⟨(l.take k ++ [(⟨nm,bal,seq⟩:bf)]).map aT,sv (by simp;rfl),k+1,sv pf,?_⟩);exact hR) rfl ?_;refine aa ?_;refine aZ rfl (by intro R hR;refine cI hR ?_;refine a₂ ((by show aY (cutL _ k l.length) 3=true;rw [dN];exact lp _)) ?_;refine a₂ ⟨(by simp <;> omega),ai (by kernel_rfl) pf⟩ ?_;refine⟨Z.map aT,sv (by rw [hfin];show _ ++ cutL _ k l.length=_;rw [dN];simp),Z.length,sv pf,?_⟩;exact hR) rfl ?_;refine aa ?_;refine⟨[_],[],[(26,Z.length)],rfl,rfl,?_,rfl,⟨?_,trivial⟩,?_⟩
    ·exact⟨by show Z.length≤(Z.map aT).length;simp,trivial⟩
    ·exact .inr ⟨rfl,rfl,rfl,c₀ (a₅ _),bc aT Z⟩
    ·exact mm
  ·have hk:k=l.length:=by have:=oF h;omega
   have hfin:=done (fun h=>absurd h om);refine aa ?_;have fb1:=aj.mk (jo (κ:= .i64) hki);have fb2:=aj.mk (fW (κ:= .i64) hki);have fb3:=bE.mk (lp l);refine aa ?_;refine al [ae 0,ae 1,ae 2,ae 3,ae 4,ae 5,ae 6,ae 7,ae 8,ae 9,ae 10,ae 11,ae 12] ?_;refine aa ?_;refine aZ rfl (by intro R hR;refine cI hR ?_;refine a₂ ((by show aY (cutL _ 0 k) 3=true;rw [cut_take];exact lp _)) ?_;refine a₂ ⟨rfl,ai (by kernel_rfl) pf⟩ ?_;refine⟨(l.take k).map aT,sv (by show [] ++ cutL _ 0 k=_;rw [c₁,cut_take]),k,sv pf,?_⟩;exact hR) rfl ?_;refine aa ?_;refine aZ rfl (by intro R hR;refine cI hR ?_;(refine a₂ (c₂ _) ?_;refine⟨_,rfl,?_⟩;refine a₂ ⟨(by simp <;> omega),ai (by kernel_rfl) pf⟩ ?_;refine⟨(l.take k ++ [(⟨nm,bal,seq⟩:bf)]).map aT,sv (by simp;rfl),k+1,sv pf,?_⟩);exact hR) rfl ?_;refine aa ?_;refine aZ rfl (by intro R hR;refine cI hR ?_;refine a₂ ((by show aY (cutL _ k l.length) 3=true;rw [dN];exact lp _)) ?_;refine a₂ ⟨(by simp <;> omega),ai (by kernel_rfl) pf⟩ ?_;refine⟨Z.map aT,sv (by rw [hfin];show _ ++ cutL _ k l.length=_;rw [dN];simp),Z.length,sv pf,?_⟩;exact hR) rfl ?_;refine aa ?_;refine⟨[_],[],[(26,Z.length)],rfl,rfl,?_,rfl,⟨?_,trivial⟩,?_⟩
   ·exact⟨by show Z.length≤(Z.map aT).length;simp,trivial⟩
   ·exact .inr ⟨rfl,rfl,rfl,c₀ (a₅ _),bc aT Z⟩
   ·exact mm
 ·obtain⟨k,b,h1,h2,_⟩:=hspec.resolve_left (fun h=>hf h.1);have hk:=(c₃.1 h2).1;rw [h1] at c1 hput;rw [if_pos om,Int.toNat_natCast,a₅] at hput;rw [a₅] at c1;rw [hput];clear h1 h2 hspec hf hput;rw [d₃];have f1:=aj.mk (cE hk);have hrow:bW (l.map aT) (0 + k)=some (aT l[k]):=by rw [bS,a₅];simp [hk]
  generalize l[k] =b' at hrow;obtain⟨nm',bal',seq'⟩:=b';have hrow:=aj.mk (show bW (l.map aT) (0 + k)=some (.st [.str nm', .int .u64 bal', .int .u64 seq']) from hrow);refine dw seat Tryz.func81 50 ?_;refine aa ?_;(iterate 3 ((all_goals(refine aa ?_));(all_goals(first | (refine ah rfl aA rfl (src (c1)) rfl rfl ?_) | ((first | refine ag rfl rfl ?_ rfl ?_ | refine ad rfl ?_ ?_);all_goals(intro h;(try simp only [pl] at h);(try (exfalso;omega)))) | skip))));refine aL rfl rfl (by intro R hR;refine cI hR ?_;refine a₂ ((lp l)) ?_;refine a₂ ⟨rfl,ai (by kernel_rfl) pf⟩ ?_;refine⟨l.map aT,sv (by show [] ++ l.map aT=_;rw [c₁]),l.length,sv pf,?_⟩;exact hR) rfl ?_;refine aa ?_;refine⟨[_],[],[(10,l.length)],rfl,rfl,?_,rfl,⟨?_,trivial⟩,?_⟩
  ·exact⟨by show l.length≤(setL (l.map aT) (0 + k) _).length;rw [setL_eq];simp,trivial⟩
  ·refine .inr ⟨rfl,rfl,rfl,c₀ (a₅ _),?_⟩
   show cutL (setL (l.map aT) (0 + k) (aT ⟨nm,bal,seq⟩)) 0 (0 + l.length)=(l.set k ⟨nm,bal,seq⟩).map aT
   rw [setL_eq,a₅,← List.map_set,cut_take,a₅];rw [a₇ (by rw [d₃];omega)]
  ·exact mm
end
end Go.Proofs.YtohikcplmbkmeaaGreatDoor
