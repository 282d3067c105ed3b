/- Parts of a proof. -/
import Derived.Test.YtohikcplmbkmeaaGreatDoorW10
open List renaming replicate → a₀,getElem?_eq_some_iff → a₂,drop_eq_getElem_cons → a₃,length_append → a₄,take_append_of_le_length → a₅,drop_length → a₆,length_singleton → a₈,length_map → a₉,flatten_cons → b₀,getElem?_eq_getElem → b₂,mem_cons → b₃,drop_zero → b₄,getElem_mem → b₅,map_cons → b₆,mem_cons_self → b₇,append_assoc → b₉,length_take → c₀,take_append_drop → c₁,getElem?_eq_none → c₂,mem_of_mem_drop → c₃,map_append → c₄,pairwise_cons → c₆,getElem?_append_right → c₈,getElem?_append_left → c₉,length_drop → d₀,mem_cons_of_mem → d₃,replicate_succ' → d₄,any_cons → d₅,perm_nil → d₆,getElem?_take → d₇,getElem?_drop → d₈,prefix_append → d₉,mem_map → e₀,ext_getElem? → e₂,perm_middle → e₃,length_cons → e₄,take_length → e₅,any_append → e₆,foldl_cons → e₇,length_nil → e₈,append_nil → e₉,length_set → f₁,take_take → f₂
open Prod.mk renaming injEq → a₁
open Nat renaming zero_le → a₇,le_refl → b₁,zero_add → b₈,min_def → c₅,min_eq_left → d₁,min → d₂,lt_of_lt_of_le → e₁,not_lt_zero → f₀
open And renaming intro → c₇
set_option maxRecDepth 20000
set_option maxHeartbeats 16000000
set_option linter.unusedVariables false
set_option linter.unusedSimpArgs false
namespace Go.Proofs.YtohikcplmbkmeaaGreatDoor
open Go.RowKit
section
def JN (s:List UInt8) (ks:List (List UInt8)):List (List UInt8):=if s∈ks then ks else ks ++ [s]
def iX (acs:List bd):List mF→List (List UInt8)→List (List UInt8)
 | [],ks=>ks
 | x :: r,ks=>iX acs r (if (bE acs x.to_).2=true then ks else JN x.to_ ks)
theorem getS_any (l:List bd) (nm:List UInt8):(bE l nm).2=l.any (fun a=>decide (a.name=nm)):=by
 induction l with
 | nil=>rfl
 | cons a r ih=>
  rw [d₅];by_cases h:a.name=nm
  ·have e:bE (a :: r) nm=(a,true):=by unfold bE;rw [List.find?_cons_of_pos (by simp [h])]
   rw [e];simp [h]
  ·have e:bE (a :: r) nm=bE r nm:=by unfold bE;rw [List.find?_cons_of_neg (by simp [h])]
   rw [e,ih];simp [h]
theorem HR {a:bd} {l:List bd} (hs:eN l):(gq a l).length=l.length + (if (bE l a.name).2=true then 0 else 1):=by
 cases h:(bE l a.name).2 with
 | true=>rw [oA hs h];simp
 | false=>
  rw [ss hs h];have:=mO a.name l;simp;omega
theorem Bg {a:bd} {l:List bd} (hs:eN l) (nm:List UInt8):(bE (gq a l) nm).2=((bE l nm).2 || decide (a.name=nm)):=by
 cases h:(bE l a.name).2 with
 | true=>
  rw [oA hs h,getS_any,getS_any];rcases fE (nm:=a.name) hs with ⟨_,h2,h3⟩ | ⟨h1,_⟩
  ·obtain⟨hk,h2⟩:=a₂.1 h2;have e1:l.set (posA a.name l) a=l.take (posA a.name l) ++ a :: l.drop (posA a.name l + 1):=List.set_eq_take_append_cons_drop.trans (if_pos hk);have e2:l=l.take (posA a.name l) ++ l[posA a.name l] :: l.drop (posA a.name l + 1):=by
    conv=>lhs;rw [← c₁ (posA a.name l) l,a₃ hk]
   rw [e1]
   conv=>rhs;rw [e2]
   rw [h2];simp only [e₆,d₅,h3];cases decide (a.name=nm) <;> simp
  ·rw [h1] at h;cases h
 | false=>
  rw [ss hs h,getS_any,getS_any]
  conv=>rhs;rw [← c₁ (posA a.name l) l]
  simp only [e₆,d₅];cases decide (a.name=nm) <;> simp
theorem JO (x:mF) {acs:List bd} (hs:eN acs):(mK x acs).name=x.to_:=by
 unfold mK;rcases fE (nm:=x.to_) hs with ⟨h1,_,h3⟩ | ⟨h1,_⟩
 ·rw [if_pos h1];exact h3
 ·rw [if_neg (by rw [h1];simp)]
theorem sw {x:mF} {acs:List bd} (hs:eN acs):eN (ik acs x):=su hs
theorem sx (z:List bd): ∀(trs:List mF) (cur:List bd) (ks:List (List UInt8)),eN cur→(∀nm,(bE cur nm).2=((bE z nm).2 || decide (nm∈ks)))→(trs.foldl ik cur).length + ks.length=cur.length + (iX z trs ks).length
 | [],cur,ks,_,_=>rfl
 | x :: r,cur,ks,hs,hk=>by
  rw [e₇,iX]
  have hn:=JO x hs
  have hl:(ik cur x).length=cur.length + (if (bE cur x.to_).2=true then 0 else 1):=by
   unfold ik
   rw [HR hs]
   dsimp only
   rw [hn]
  have hh: ∀nm,(bE (ik cur x) nm).2=((bE cur nm).2 || decide (x.to_=nm)):=fun nm=>by
   unfold ik
   rw [Bg hs]
   dsimp only
   rw [hn]
  have hx:=hk x.to_
  by_cases hz:(bE z x.to_).2=true
  ·rw [if_pos hz]
   rw [hz,Bool.true_or] at hx
   rw [if_pos hx] at hl
   have ih:=sx z r (ik cur x) ks (sw hs) (fun nm=>by
    rw [hh,hk]
    by_cases e:x.to_=nm
    ·subst e;rw [hz];simp
    ·simp [e])
   omega
  ·rw [if_neg hz]
   have tW:(bE z x.to_).2=false:=by simpa using hz
   rw [tW,Bool.false_or] at hx
   unfold JN
   by_cases hm:x.to_∈ks
   ·rw [if_pos hm]
    rw [if_pos (by rw [hx];simpa using hm)] at hl
    have ih:=sx z r (ik cur x) ks (sw hs) (fun nm=>by
     rw [hh,hk]
     by_cases e:x.to_=nm
     ·subst e;simp [hm]
     ·simp [e])
    omega
   ·rw [if_neg hm]
    rw [if_neg (by rw [hx];simpa using hm)] at hl
    have ih:=sx z r (ik cur x) (ks ++ [x.to_]) (sw hs) (fun nm=>by
     rw [hh,hk,Bool.or_assoc]
     congr 1
     by_cases e:x.to_=nm
     ·subst e;simp
     ·simp [e,Ne.symm e])
    rw [a₄,a₈] at ih
    omega
theorem Nu {l:eh} {t:jX} {sum:Nat} (hs:eN l.acs) (hp:(bE l.acs t.sender).2=true):(js l t sum).acs.length=l.acs.length + (iX l.acs t.trs []).length:=by
 have hn:(kx l t sum).name=t.sender:=by
  rcases fE (nm:=t.sender) hs with ⟨_,_,h3⟩ | ⟨h1,_⟩
  ·exact h3
  ·rw [h1] at hp;cases hp
 have h1:(gq (kx l t sum) l.acs).length=l.acs.length:=by rw [HR hs,hn,if_pos hp,Nat.add_zero]
 have h2:=sx l.acs t.trs (gq (kx l t sum) l.acs) [] (su hs) (fun nm=>by
  rw [Bg hs,hn];by_cases e:t.sender=nm
  ·subst e;rw [hp];simp
  ·simp [e])
 rw [h1,e₈,Nat.add_zero] at h2;exact h2
theorem xw (z:List bd): ∀(trs:List mF) (ks:List (List UInt8)),(iX z trs ks).length≤ks.length + trs.length
 | [],_=>b₁ _
 | x :: r,ks=>by
  rw [iX]
  have ih:=xw z r
  have h2:(JN x.to_ ks).length≤ks.length + 1:=by unfold JN;split <;> simp
  split
  ·have:=ih ks;simp;omega
  ·have:=ih (JN x.to_ ks);simp;omega
theorem xx {s:List UInt8}: ∀{ks:List (List UInt8)} {i:Nat},s ∉ ks→findM s (ks.map MV.str) i=some none
 | [],_,_=>rfl
 | x :: r,i,h=>by
  rw [b₃,not_or] at h
  rw [b₆,findM,beq_eq_false_iff_ne.2 h.1]
  exact xx h.2
theorem tQ {s:List UInt8}: ∀{ks:List (List UInt8)} {i:Nat},s∈ks→∃j,findM s (ks.map MV.str) i=some (some (i + j))∧j < ks.length
 | x :: r,i,h=>by
  rw [b₆,findM]
  by_cases e:s=x
  ·exact⟨0,by rw [beq_iff_eq.2 e];rfl,sm⟩
  ·rw [beq_eq_false_iff_ne.2 e]
   obtain⟨j,hj,hl⟩:=tQ (i:=i + 1) ((b₃.1 h).resolve_left e)
   exact⟨j + 1,by rw [show i + (j + 1)=i + 1 + j by omega];exact hj,by simpa using hl⟩
end
section
def uM:List bd→List (List UInt8)→Nat
 | [],_=>0
 | a :: r,ks=>if eD a.name=false then 10 else if a.name∈ks then 8 else uM r (ks ++ [a.name])
theorem Bh {nm:List UInt8} {l:List bd} (hs:eN l):(0≤gm nm l 0)↔(bE l nm).2=true:=by
 rcases fE (nm:=nm) hs with ⟨h1,_,_⟩ | ⟨h1,h2⟩
 ·rw [tO hs h1,h1];simp
 ·rw [sr h2,h1];simp
theorem FY: ∀(r l:List bd) (ks:List (List UInt8)),eN l→(∀nm,(bE l nm).2=decide (nm∈ks))→(jR r l).2=uM r ks
 | [],_,_,_,_=>rfl
 | a :: r,l,ks,hs,hk=>by
  rw [jR,uM]
  by_cases h1:eD a.name=false
  ·rw [if_pos h1,if_pos h1]
  ·rw [if_neg h1,if_neg h1]
   by_cases h2:a.name∈ks
   ·rw [if_pos h2,if_pos ((Bh hs).2 (by rw [hk];simpa using h2))]
   ·rw [if_neg h2,if_neg (fun h=>h2 (by have:=(Bh hs).1 h;rw [hk] at this;simpa using this))]
    refine FY r _ _ (su hs) fun nm=>?_
    rw [Bg hs,hk]
    by_cases e:a.name=nm
    ·subst e;simp
    ·simp [e,Ne.symm e]
theorem FZ: ∀(r l:List bd),eN l→(jR r l).2=0→eN (jR r l).1∧(jR r l).1.Perm (l ++ r)
 | [],l,hs,_=>by rw [jR,e₉];exact⟨hs,List.Perm.refl _⟩
 | a :: r,l,hs,h=>by
  rw [jR] at h ⊢
  by_cases h1:eD a.name=false
  ·rw [if_pos h1] at h;exact absurd h (by decide)
  ·rw [if_neg h1] at h ⊢
   by_cases h2:0≤gm a.name l 0
   ·rw [if_pos h2] at h;exact absurd h (by decide)
   ·rw [if_neg h2] at h ⊢
    obtain⟨h3,h4⟩:=FZ r (gq a l) (su hs) h
    refine⟨h3,h4.trans ?_⟩
    have H5:(bE l a.name).2=false:=by
     cases hb:(bE l a.name).2 with
     | false=>rfl
     | true=>exact absurd ((Bh hs).2 hb) h2
    have hp:(gq a l).Perm (a :: l):=by
     rw [ss hs H5]
     have:=e₃ (a:=a) (l₁:=l.take (posA a.name l)) (l₂:=l.drop (posA a.name l))
     rwa [c₁] at this
    refine(hp.append_right r).trans ?_
    exact(e₃ (a:=a) (l₁:=l) (l₂:=r)).symm
theorem xy: ∀(r:List bd) (ks:List (List UInt8)),uM r ks=0→r.Pairwise (fun a b=>a.name≠b.name)∧∀a∈r,a.name ∉ ks
 | [],_,_=>⟨List.Pairwise.nil,sm⟩
 | a :: r,ks,h=>by
  rw [uM] at h
  split at h
  ·exact absurd h (by decide)
  ·split at h
   ·exact absurd h (by decide)
   ·rename_i hm
    obtain⟨h1,h2⟩:=xy r _ h
    refine⟨c₆.2 ⟨fun b hb e=>h2 b hb (by rw [← e];simp),h1⟩,fun b hb=>?_⟩
    rcases b₃.1 hb with rfl | hb
    ·exact hm
    ·exact fun hk=>h2 b hb (List.mem_append_left _ hk)
theorem D0: ∀{l m:List bd},eN l→eN m→l.Perm m→l=m
 | [],m,_,_,h=>(List.nil_perm.1 h).symm
 | a :: r,[],_,_,h=>absurd (d₆.1 h) sm
 | a :: r,b :: s,hl,hm,h=>by
  have h1:=c₆.1 hl
  have h2:=c₆.1 hm
  have Kg:a=b:=by
   rcases b₃.1 (h.subset (b₇ ..)) with e | ha
   ·exact e
   ·rcases b₃.1 (h.symm.subset (b₇ ..)) with e | hb
    ·exact e.symm
    ·have k1:=h2.1 a ha
     have k2:=h1.1 b hb
     rw [JI k1] at k2
     cases k2
  subst Kg
  rw [D0 h1.2 h2.2 h.cons_inv]
theorem yx {l m:List bd} (hp:l.Perm m) (hd:m.Pairwise (fun a b=>a.name≠b.name)) (hs:l.Pairwise (fun a b=>Op.bytesLess b.name a.name=false)):eN l:=by
 have BH:l.Pairwise (fun a b=>a.name≠b.name):=hp.symm.pairwise hd (fun h e=>h e.symm);exact hs.imp₂ (fun a b h1 h2=>xv h1 (Ne.symm h2)) BH
def xz (l:List bd):Nat:=(l.map (·.bal)).sum
theorem Bi: ∀(l:List bd) (s:Nat),(totS l s).2=true↔(l= [] ∨s + xz l < 18446744073709551616)
 | [],s=>by simp [totS]
 | a :: r,s=>by
  rw [totS]
  have ih:=Bi r (jA s a.bal).1
  have e:xz (a :: r)=a.bal + xz r:=by simp [xz]
  unfold jA at *
  by_cases h:s + a.bal < 18446744073709551616
  ·rw [if_pos h] at *
   rw [if_pos rfl,ih,e]
   dsimp only
   constructor
   ·rintro(rfl | h2)
    ·right;simp [xz];omega
    ·right;omega
   ·rintro(h2 | h2)
    ·cases h2
    ·right;omega
  ·rw [if_neg h,if_neg sm,e]
   simp
   omega
theorem zI {l m:List bd} (h:l.Perm m):(totS l 0).2=(totS m 0).2:=by
 have hs:xz l=xz m:=(h.map _).sum_nat;have hn:l= [] ↔m= [] :=⟨fun e=>by subst e;exact List.nil_perm.1 h,fun e=>by subst e;exact d₆.1 h⟩;have h1:=Bi l 0;have h2:=Bi m 0;rw [hs,hn] at h1;have:=h1.trans h2.symm;cases ha:(totS l 0).2 <;> cases hb:(totS m 0).2 <;> simp_all
end
section
open Go.RowKit Go.Lib Go.Shelf Go.Sort
instance:Inhabited bd:=⟨ac0⟩
def jV (a:bd):List Value:= [.string ⟨a.name.toArray⟩, .int .u64 a.bal, .int .u64 a.seq]
theorem tR (x:ByteArray) (w:World):Calls Tryz.prog 126 #[.string x] w fun e w'=>e= .returned (.bool false)∧w'=w:=by
 go_enter Tryz.func126,Tryz.ntmps126
 go_wp2
 go_ret
 exact⟨sm,rfl⟩
theorem D8 (x y:List UInt8) (w:World):Calls Tryz.prog 77 #[.string ⟨x.toArray⟩, .string ⟨y.toArray⟩] w fun e w'=>e= .returned (.int .i64 (kA x y))∧w'=w:=by
 have ex:(⟨x.toArray⟩:ByteArray).toList=x:=by rw [Lib.toList_data]
 have ey:(⟨y.toArray⟩:ByteArray).toList=y:=by rw [Lib.toList_data]
 have Zm: ∀w,(binOp .gtr 9 (.string ⟨x.toArray⟩) (.string ⟨y.toArray⟩)).run Tryz.prog w= .ok (.bool (!(Op.bytesLess x y || x == y))) w:=fun w=>by simp [binOp,Op.stringOp,ex,ey]
 unfold kA;by_cases h1:Op.bytesLess x y=true
 ·rw [if_pos h1]
  go_enter Tryz.func77,Tryz.ntmps77
  go_wp2_with (go_at_call 126;refine(tR _ _).mono ?_;rintro e w' ⟨rfl,rfl⟩)
  go_ret
  exact⟨rfl,rfl⟩
 ·rw [if_neg h1];have h1:Op.bytesLess x y=false:=by simpa using h1
  by_cases h2:x=y
  ·subst h2;rw [h1,beq_self_eq_true,Bool.or_true,Bool.not_true] at Zm;rw [if_neg sm]
   go_enter Tryz.func77,Tryz.ntmps77
   go_wp2_with (first | (go_at_call 126;refine(tR _ _).mono ?_;rintro e w' ⟨rfl,rfl⟩) | simp only [Zm,Result.andThen_ok])
   go_ret
   exact⟨rfl,rfl⟩
  ·have h3:(x == y)=false:=beq_eq_false_iff_ne.2 h2;rw [h1,h3,Bool.or_false,Bool.not_false] at Zm;rw [if_pos (by simp [h1,h2])]
   go_enter Tryz.func77,Tryz.ntmps77
   go_wp2_with (first | (go_at_call 126;refine(tR _ _).mono ?_;rintro e w' ⟨rfl,rfl⟩) | simp only [Zm,Result.andThen_ok])
   go_ret
   exact⟨rfl,rfl⟩
theorem Nv (a b:bd) (W:World):Calls Tryz.prog 76 #[.agg (jV a).toArray, .agg (jV b).toArray] W fun e w'=>e= .returned (.int .i64 (kA a.name b.name))∧∃q os',w'=grow (W.drewN q) os':=by
 have Xf:=fun W'=>D8 a.name b.name W'
 unfold jV;generalize kA a.name b.name=r at Xf ⊢
 go_enter Tryz.func76,Tryz.ntmps76
 go_wp2_with (go_at_call 77;refine(Xf _).mono ?_;rintro e w' ⟨rfl,rfl⟩)
 go_ret
 exact⟨rfl,0,_,by rw [alloc_eq_grow,alloc_eq_grow,grow_grow];rfl⟩
end
section
open Go.RowKit Go.Lib Go.Shelf
theorem Nw:(Tryz.prog.info? 91).map (fun i=>(i.zero,i.size,i.bytes))=some (some (.agg #[.string ⟨#[]⟩, .int .u64 0, .int .u64 0]),3,32):=by kernel_rfl
theorem D9:Tryz.prog.underlying 22=some (.slice 91):=by kernel_rfl
theorem HT:Tryz.prog.underlying 3=some (.int .i64):=by kernel_rfl
section
variable {P:Program}
theorem Bj (w:World) {o:Oper} {a:Act} {K:Act→World→Prop} {Q:Exit→Act→World→Prop} (d s:Operand) (t t':TypeId)
  (ho:o.op= .call { callee:= .builtin .copy,args:= #[d,s],argTypes:= #[t,t'] }) (v u:Value) (hd:a.eval d=v) (hs:a.eval s=u) {v':Value} {w':World}
  (hr:(Builtin.copy_ #[t,t'] o.type #[v,u]).run P w= .ok v' w') (h:K (a.put o.dst v') w'):o.wp P a w K Q:=by
 unfold Oper.wp execOp
 simp only [ho,resolve,invoke,builtin,Sem.run_bind,Sem.run_pure,Result.andThen_ok,List.map_toArray,b₆,List.map_nil,hd,hs,hr]
 exact h
theorem lR (w:World) {ops:Array Oper} {rest:List Oper} {o:Oper} {a:Act} {Q:Exit→Act→World→Prop} (UR:o.guard=none) (d s:Operand) (t t':TypeId)
  (ho:o.op= .call { callee:= .builtin .copy,args:= #[d,s],argTypes:= #[t,t'] }) (v u:Value) (hd:a.eval d=v) (hs:a.eval s=u) {v':Value} {w':World}
  (hr:(Builtin.copy_ #[t,t'] o.type #[v,u]).run P w= .ok v' w') (h:wpList P ops Q rest (a.put o.dst v') w'):wpList P ops Q (o :: rest) a w:=
 wpList_plain UR fun _ hK=>Bj w d s t t' ho v u hd hs hr (hK _ _ h)
theorem oB {ops:Array Oper} {o:Oper} {a:Act} {w:World} {K:Act→World→Prop} {Q:Exit→Act→World→Prop} {E:Prop}
  (hg:o.guard=none) (d x:Operand) (dT sT:TypeId) (R5:o.op=Op.call { callee:=Callee.builtin Builtin.copy,args:= #[d,x],argTypes:= #[dT,sT] })
  (v u:Value) (hd:a.eval d=v) (hx:a.eval x=u) {v':Value} {w':World} (hr:(Builtin.copy_ #[dT,sT] o.type #[v,u]).run P w= .ok v' w') (hK:K (a.put o.dst v') w') :
  if Region.wanted o (yielded ops a.tmps)=true then Oper.wp P o a w K Q else E:=by
 have hw:Region.wanted o (yielded ops a.tmps)=true:=by simp [Region.wanted,hg]
 rw [if_pos hw]
 unfold Oper.wp
 simp [execOp,R5,resolve,invoke,builtin,hd,hx,hr,Result.andThen]
 exact hK
end
theorem jb {P:Program} (w:World) (dT sT ty elem:TypeId) (es g o U9 b0x:Nat) (a:Addr) (UD a0o:Nat) (cur:Array Value) (t:TypeId) (cs:List Value)
  (hu:P.underlying dT=some (.slice elem)) (hs:(P.info? elem).map (·.size)=some es)
  (hg:w.heap[g]? =some (.cells cur t (0,0))) (hn:cs.length=d₂ UD U9 * es)
  (b0t: ∀j v,cs[j]? =some v→w.cell? (a.add j)=some v) (U6:o + cs.length≤cur.size) (h1: ∀v∈cs,v.oneCell'=true) :
  (Builtin.copy_ #[dT,sT] ty #[.slice (some ⟨g,o,none⟩) U9 b0x, .slice (some a) UD a0o]).run P w =
   .ok (goInt (d₂ UD U9)) (w.setRow g (cur.toList.take o ++ cs ++ cur.toList.drop (o + cs.length)).toArray):=by
 have hl:=run_loadCells_list (P:=P) w a cs b0t
 have vk:=run_storeCells_at P g o t cs 0 cur w hg (by simpa using U6) h1
 cases hq:P.info? elem with
 | none=>simp [hq] at hs
 | some i=>
  have hi:i.size=es:=by simpa [hq] using hs
  simp [Builtin.copy_,run_underlying hu,Builtin.lenOf,Builtin.firstCells,sizeOf,typeInfo,hq,hi,← hn,hl,vk]
def JP:Value:= .agg #[.string ⟨#[]⟩, .int .u64 0, .int .u64 0]
theorem uA: ∃i0,Tryz.prog.info? 91=some i0∧i0.zero=some JP∧i0.size=3∧i0.bytes=32:=by
 have h:=Nw;cases hq:Tryz.prog.info? 91 with
 | none=>rw [hq] at h;cases h
 | some i=>
  rw [hq] at h;simp only [Option.map_some,Option.some.injEq,a₁] at h;exact⟨i,rfl,h.1,h.2.1,h.2.2⟩
set_option maxRecDepth 100000 in
theorem Ny (b off n c i vb RL vc:Nat) (cs vs:List Value) (w:World) (hi:i < n) (hnc:n≤c) (fK:c < n + 1) (XP:(n + 1) * 32≤140737488355328)
  (sG:cs.length=n * 3) (SQ:vs.length=3)
  (pw: ∀j v,cs[j]? =some v→w.cell? ⟨b,off + j,none⟩=some v)
  (tU: ∀j v,vs[j]? =some v→w.cell? ⟨vb,RL + j,none⟩=some v) (VH: ∀v∈cs,v.oneCell'=true) (VG: ∀v∈vs,v.oneCell'=true) :
  Calls Tryz.prog 139 #[.slice (some ⟨b,off,none⟩) n c, .int .i64 i, .slice (some ⟨vb,RL,none⟩) 1 vc] w fun e w'=>
   ∃G,n + 1≤G∧G≤maxLen∧∃ROW:Array Value,ROW.size=G * 3∧(cs.take (i * 3) ++ vs ++ cs.drop (i * 3)) <+:ROW.toList∧
   e= .returned (.slice (some ⟨w.heap.size,0,none⟩) (n + 1) G)∧
   ∃R1 R0,w'=(((w.alloc (.cells R0 91)).drew.setRow w.heap.size R1).drew).setRow w.heap.size ROW:=by
 obtain⟨i0,Oy,SC,Br,hzb⟩:=uA
 have ha:Tryz.prog.underlying 22=some (.slice 91):=D9
 have hint:Tryz.prog.underlying 3=some (.int .i64):=HT
 have u22:=run_underlying ha
 have u3:=run_underlying hint
 have Ka: ¬ ((i:Int)=(n:Int)):=om
 have hz3:(c:Int) < (n:Int) + 1:=om
 have gM:(Tryz.prog.info? 91).map (·.size)=some 3:=by rw [Oy];simp [Br]
 have hbw:b < w.heap.size:=block_lt_of_cell (pw 0 _ (b₂ om))
 have hvw:vb < w.heap.size:=block_lt_of_cell (tU 0 _ (b₂ om))
 have J8:(n:Int) + 1 - (i:Int)=((n + 1 - i:Nat):Int):=om
 have hik:i + (n + 1 - i)=n + 1:=om
 have hold:(Builtin.firstCells i0.size i (.slice (some ⟨b,off,none⟩) i c)).run Tryz.prog w.drew= .ok (cs.take (i * 3)).toArray w.drew:=by
  rw [Br]
  exact run_firstCells_some w.drew 3 i ⟨b,off,none⟩ i c (cs.take (i * 3)) (by rw [c₀];omega) (fun j v hj=>by
   rw [Addr.add_lit]
   rw [d₇] at hj
   split at hj
   ·exact pw j v hj
   ·cases hj)
 have hrz: ∀ty,(Builtin.append_ #[22,3] ty #[.slice (some ⟨b,off,none⟩) i c, .int .i64 ((n:Int) + 1 - (i:Int))]).run Tryz.prog w =
   .ok (.slice (some ⟨w.heap.size,0,none⟩) (n + 1) (grownCap w (n + 1) c 91)) (w.drew.alloc (.cells ((cs.take (i * 3)).toArray ++ Builtin.zeroCells JP.cells (n + 1 - i) ++ Builtin.zeroCells JP.cells (grownCap w (n + 1) c 91 - (n + 1))) 91)):=fun ty=>by
  have h:=Lib.run_append_grow_zeros w 22 3 ty 91 i0 _ .i64 .i64 ha hint Oy SC (some ⟨b,off,none⟩) i c (cs.take (i * 3)) hold (n + 1 - i) om om om om (by rw [hzb];omega) (by rw [hzb,hik];exact growslice_fits fK XP)
  rw [hik] at h
  rw [J8]
  exact h
 have hGn:n + 1≤grownCap w (n + 1) c 91:=grownCap_ge w _ _ _
 have Xi:grownCap w (n + 1) c 91≤maxLen:=grownCap_le_maxLen w (n + 1) c 91 (by unfold maxLen;omega)
 obtain⟨G,hG⟩: ∃G,G=grownCap w (n + 1) c 91:=⟨_,rfl⟩
 obtain⟨ROW,RW⟩: ∃ROW:Array Value,ROW=(cs.take (i * 3)).toArray ++ Builtin.zeroCells JP.cells (n + 1 - i) ++ Builtin.zeroCells JP.cells (G - (n + 1)):=⟨_,rfl⟩
 rw [← hG] at hrz hGn Xi
 rw [← RW] at hrz
 have hRl:ROW.size=G * 3:=by
  have hz: ∀k,(Builtin.zeroCells JP.cells k).size=k * 3:=fun k=>by unfold Builtin.zeroCells;rw [Array.size_map,Array.size_range];rfl
  rw [RW,Array.size_append,Array.size_append,hz,hz,List.size_toArray,c₀,sG]
  simp only [c₅]
  split <;> omega
 have XM: ∀(W:World),W.heap=(w.alloc (.cells ROW 91)).heap→W.heap[w.heap.size]? =some (.cells ROW 91 (0,0)):=fun W hW=>by
  rw [hW]
  show(w.heap.push (.cells ROW 91 (0,0)))[w.heap.size]? =_
  exact Array.getElem?_push_size
 have hOb: ∀(W:World),W.heap=(w.alloc (.cells ROW 91)).heap→∀x j v,x < w.heap.size→w.cell? ⟨x,j,none⟩=some v→W.cell? ⟨x,j,none⟩=some v:=fun W hW x j v hx h=>by
  have h1:=World.cell?_alloc_past (w:=w) (.cells ROW 91) x j hx
  unfold World.cell? at h1 h ⊢
  rw [hW]
  exact h1.trans h
 have Ou: ∀(W:World),W.heap=(w.alloc (.cells ROW 91)).heap→∀ty dc,(Builtin.copy_ #[22,22] ty #[.slice (some ⟨w.heap.size,i * 3,none⟩) (n + 1 - i) dc, .slice (some ⟨vb,RL,none⟩) 1 vc]).run Tryz.prog W= .ok (goInt 1) (W.setRow w.heap.size (ROW.toList.take (i * 3) ++ vs ++ ROW.toList.drop (i * 3 + 3)).toArray):=fun W hW ty dc=>by
  have hm:d₂ 1 (n + 1 - i)=1:=by simp only [c₅];split <;> omega
  have h:=jb W 22 22 ty 91 3 w.heap.size (i * 3) (n + 1 - i) dc ⟨vb,RL,none⟩ 1 vc ROW 91 vs ha gM (XM W hW) (by rw [hm,SQ]) (fun j v hj=>by rw [Addr.add_lit];exact hOb W hW vb _ v hvw (tU j v hj)) om VG
  rw [hm,SQ] at h
  exact h
 obtain⟨R1,Km⟩: ∃R1,R1=(ROW.toList.take (i * 3) ++ vs ++ ROW.toList.drop (i * 3 + 3)).toArray:=⟨_,rfl⟩
 rw [← Km] at Ou
 have b0w:R1.size=G * 3:=by
  rw [Km]
  simp
  omega
 have BF:(cs.drop (i * 3)).length=(n - i) * 3:=by rw [d₀,sG];omega
 have Oe: ∀(W:World),W.heap=((w.alloc (.cells ROW 91)).drew.setRow w.heap.size R1).heap→∀ty dc sc,(Builtin.copy_ #[22,22] ty #[.slice (some ⟨w.heap.size,(i + 1) * 3,none⟩) (n - i) dc, .slice (some ⟨b,off + i * 3,none⟩) (n - i) sc]).run Tryz.prog W= .ok (goInt (n - i:Nat)) (W.setRow w.heap.size (R1.toList.take ((i + 1) * 3) ++ cs.drop (i * 3) ++ R1.toList.drop ((i + 1) * 3 + (n - i) * 3)).toArray):=fun W hW ty dc sc=>by
  have hm:d₂ (n - i) (n - i)=n - i:=Nat.min_self _
  have yB:W.heap[w.heap.size]? =some (.cells R1 91 (0,0)):=by
   rw [hW]
   exact setRow_heap _ w.heap.size ROW R1 91 (0,0) (XM _ rfl)
  have h:=jb W 22 22 ty 91 3 w.heap.size ((i + 1) * 3) (n - i) dc ⟨b,off + i * 3,none⟩ (n - i) sc R1 91 (cs.drop (i * 3)) ha gM yB (by rw [hm,BF]) (fun j v hj=>by
   rw [Addr.add_lit,Nat.add_assoc]
   rw [d₈] at hj
   have h1:=hOb (w.alloc (.cells ROW 91)).drew rfl b _ v hbw (pw _ v hj)
   have h2:(((w.alloc (.cells ROW 91)).drew.setRow w.heap.size R1)).cell? ⟨b,off + (i * 3 + j),none⟩=some v:=(cell_setRow_other _ _ _ _ (Nat.ne_of_lt hbw)).trans h1
   unfold World.cell? at h2 ⊢
   rw [hW]
   exact h2) om (fun v hv=>VH v (c₃ hv))
  rw [hm,BF] at h
  exact h
 have hw1:IntKind.i64.wrap ((i:Int) + 1)=(i:Int) + 1:=by rw [IntKind.wrap_i64];omega
 have Xy:IntKind.i64.wrap ((n:Int) + 1)=(n:Int) + 1:=by rw [IntKind.wrap_i64];omega
 have sM:(0:Int)≤(i:Int) + 1:=om
 have xJ:i≤n:=om
 have htn:((i:Int) + 1).toNat=i + 1:=om
 have U8:(i:Int)≤(n:Int):=om
 have hGi: ¬ (G=i):=om
 have l0q: ¬ (G=i + 1):=om
 have UP: ¬ (c=i):=om
 have ib:(cs.take (i * 3))=ROW.toList.take (i * 3):=by
  rw [RW,Array.toList_append,Array.toList_append,b₉,a₅ (by simp;omega),List.toList_toArray,f₂,Nat.min_self]
 have Yd:R1.toList.take ((i + 1) * 3)=cs.take (i * 3) ++ vs:=by
  rw [Km,← ib]
  have h1:(cs.take (i * 3)).length=i * 3:=by simp;omega
  show List.take _ (cs.take (i * 3) ++ vs ++ _)=_
  rw [a₅ (by simp;omega),List.take_of_length_le (by simp;omega)]
 obtain⟨R2,Kh⟩: ∃R2,R2=(R1.toList.take ((i + 1) * 3) ++ cs.drop (i * 3) ++ R1.toList.drop ((i + 1) * 3 + (n - i) * 3)).toArray:=⟨_,rfl⟩
 rw [← Kh] at Oe
 have Vi:R2.size=G * 3:=by
  rw [Kh]
  simp
  omega
 have UO:(cs.take (i * 3) ++ vs ++ cs.drop (i * 3)) <+:R2.toList:=by
  rw [Kh,Yd]
  exact d₉ _ _
 have mixed:Tryz.prog.follows Departure.mixedOrders=true:=by kernel_rfl
 clear J8 hik hold RW hG Km Kh ib Yd
 go_enter Tryz.func139,Tryz.ntmps139
 have Xu:=Ou (w.alloc (.cells ROW 91)).drew rfl
 have hB0:=Oe ((w.alloc (.cells ROW 91)).drew.setRow w.heap.size R1).drew rfl
 go_wp2_with (first
  | (at_builtin;refine Lib.wpList_append_run _ rfl _ _ _ _ rfl _ _ rfl rfl _ _ (hrz _) ?_)
  | (at_builtin;refine lR _ rfl _ _ 22 22 rfl _ _ rfl rfl (Xu _ _) ?_))
 go_region_law_o (refine oB rfl _ _ 22 22 rfl _ _ (by simp [Act.eval,Act.put]) (by simp [Act.eval,Act.put]) (hB0 _ _ _) ?_)
 go_wp2
 go_ret
 exact⟨G,hGn,Xi,R2,Vi,UO,rfl,R1,ROW,rfl⟩
set_option maxRecDepth 100000 in
theorem JR (b n c i vb vc:Nat) (cs vs:List Value) (cur Ow:Array Value) (tv:TypeId) (w:World) (hi:i < n) (fK:n + 1≤c) (c0e:c≤maxLen) (hvb:vb≠b)
  (hg:w.heap[b]? =some (.cells cur 91 (0,0))) (hcz:cur.size=c * 3) (hgv:w.heap[vb]? =some (.cells Ow tv (0,0)))
  (sG:cs.length=n * 3) (SQ:vs.length=3) (hcp:cs <+:cur.toList)
  (tU: ∀j v,vs[j]? =some v→w.cell? ⟨vb,j,none⟩=some v) (VH: ∀v∈cs,v.oneCell'=true) (VG: ∀v∈vs,v.oneCell'=true) :
  Calls Tryz.prog 139 #[.slice (some ⟨b,0,none⟩) n c, .int .i64 i, .slice (some ⟨vb,0,none⟩) 1 vc] w fun e w'=>
   ∃ROW:Array Value,ROW.size=c * 3∧(cs.take (i * 3) ++ vs ++ cs.drop (i * 3)) <+:ROW.toList∧
   e= .returned (.slice (some ⟨b,0,none⟩) (n + 1) c)∧
   ∃R1,w'=(w.drew.setRow b R1).setRow b ROW:=by
 obtain⟨i0,Oy,SC,Br,hzb⟩:=uA
 have ha:Tryz.prog.underlying 22=some (.slice 91):=D9
 have hint:Tryz.prog.underlying 3=some (.int .i64):=HT
 have u22:=run_underlying ha
 have u3:=run_underlying hint
 unfold maxLen at c0e
 have Ka: ¬ ((i:Int)=(n:Int)):=om
 have gM:(Tryz.prog.info? 91).map (·.size)=some 3:=by rw [Oy];simp [Br]
 have UB: ∀w,(Go.sizeOf 91).run Tryz.prog w= .ok 3 w:=fun w=>by simp [sizeOf,typeInfo,Oy,Br]
 have ng:w.shape? vb=some (tv,Ow.size):=by simp [World.shape?,hgv]
 have hsb:w.shape? b=some (91,c * 3):=by simp [World.shape?,hg,hcz]
 have hfa: ∀k,w.frozen? ⟨vb,k,none⟩=false:=fun k=>by simp [World.frozen?,hgv]
 have YE: ∀lb cb,(callFunc 200 #[.slice (some ⟨vb,0,none⟩) 1 vc, .slice (some ⟨b,(i + 1) * 3,none⟩) lb cb]).run Tryz.prog w= .ok (.value (.bool false)) w:=fun lb cb=>by
  rw [run_callFunc_extern Tryz.func200 (by kernel_rfl) (by kernel_rfl) (by kernel_rfl) (e:=Extern.SlicesOverlaps.overlaps #[22,22] #[4]) (by kernel_rfl),
   Lib.run_overlaps_apart w 22 4 91 ha 3 UB ⟨vb,0,none⟩ ⟨b,(i + 1) * 3,none⟩ 1 vc lb cb hvb tv 91 Ow.size (c * 3) ng hsb om (hfa 0) (hfa _)]
  rfl
 obtain⟨tl,Kt⟩:=hcp
 have hct:cur.toList.length=c * 3:=by rw [Array.length_toList];exact hcz
 have BF:(cs.drop (i * 3)).length=(n - i) * 3:=by rw [d₀,sG];omega
 have sJ: ∀(W:World),W.heap=w.heap→∀j v,cs[j]? =some v→W.cell? ⟨b,j,none⟩=some v:=fun W hW j v hj=>by
  have h1:cur[j]? =some v:=by
   rw [← Array.getElem?_toList,← Kt,c₉ (a₂.1 hj).1]
   exact hj
  unfold World.cell?
  rw [hW,hg]
  exact h1
 have Ou: ∀(W:World),W.heap=w.heap→∀ty dc sc,(Builtin.copy_ #[22,22] ty #[.slice (some ⟨b,(i + 1) * 3,none⟩) (n - i) dc, .slice (some ⟨b,i * 3,none⟩) (n + 1 - i) sc]).run Tryz.prog W= .ok (goInt (n - i:Nat)) (W.setRow b (cur.toList.take ((i + 1) * 3) ++ cs.drop (i * 3) ++ cur.toList.drop ((i + 1) * 3 + (n - i) * 3)).toArray):=fun W hW ty dc sc=>by
  have hm:d₂ (n + 1 - i) (n - i)=n - i:=by simp only [c₅];split <;> omega
  have h:=jb W 22 22 ty 91 3 b ((i + 1) * 3) (n - i) dc ⟨b,i * 3,none⟩ (n + 1 - i) sc cur 91 (cs.drop (i * 3)) ha gM (by rw [hW];exact hg) (by rw [hm,BF]) (fun j v hj=>by
   rw [Addr.add_lit]
   rw [d₈] at hj
   exact sJ W hW _ v hj) om (fun v hv=>VH v (c₃ hv))
  rw [hm,BF] at h
  exact h
 obtain⟨R1,Km⟩: ∃R1,R1=(cur.toList.take ((i + 1) * 3) ++ cs.drop (i * 3) ++ cur.toList.drop ((i + 1) * 3 + (n - i) * 3)).toArray:=⟨_,rfl⟩
 rw [← Km] at Ou
 have b0w:R1.size=c * 3:=by
  rw [Km]
  simp
  omega
 have Oe: ∀(W:World),W.heap=(w.drew.setRow b R1).heap→∀ty dc,(Builtin.copy_ #[22,22] ty #[.slice (some ⟨b,i * 3,none⟩) (n + 1 - i) dc, .slice (some ⟨vb,0,none⟩) 1 vc]).run Tryz.prog W= .ok (goInt 1) (W.setRow b (R1.toList.take (i * 3) ++ vs ++ R1.toList.drop (i * 3 + 3)).toArray):=fun W hW ty dc=>by
  have hm:d₂ 1 (n + 1 - i)=1:=by simp only [c₅];split <;> omega
  have yB:W.heap[b]? =some (.cells R1 91 (0,0)):=by
   rw [hW]
   exact setRow_heap _ b cur R1 91 (0,0) hg
  have h:=jb W 22 22 ty 91 3 b (i * 3) (n + 1 - i) dc ⟨vb,0,none⟩ 1 vc R1 91 vs ha gM yB (by rw [hm,SQ]) (fun j v hj=>by
   rw [Addr.add_lit,b₈]
   have h2:(w.drew.setRow b R1).cell? ⟨vb,j,none⟩=some v:=(cell_setRow_other _ _ _ _ hvb).trans (tU j v hj)
   unfold World.cell? at h2 ⊢
   rw [hW]
   exact h2) om VG
  rw [hm,SQ] at h
  exact h
 obtain⟨R2,Kh⟩: ∃R2,R2=(R1.toList.take (i * 3) ++ vs ++ R1.toList.drop (i * 3 + 3)).toArray:=⟨_,rfl⟩
 rw [← Kh] at Oe
 have Vi:R2.size=c * 3:=by
  rw [Kh]
  simp
  omega
 have OI:R1.toList.take (i * 3)=cs.take (i * 3):=by
  rw [Km]
  show List.take _ (cur.toList.take ((i + 1) * 3) ++ cs.drop (i * 3) ++ _)=_
  rw [b₉,a₅ (by simp;omega),f₂,← Kt,a₅ om]
  congr 1
  simp only [c₅]
  split <;> omega
 have NY:cs.drop (i * 3) <+:R1.toList.drop (i * 3 + 3):=by
  rw [Km]
  show _ <+:List.drop _ (cur.toList.take ((i + 1) * 3) ++ cs.drop (i * 3) ++ _)
  have hl:(cur.toList.take ((i + 1) * 3)).length=i * 3 + 3:=by rw [c₀,hct,d₁ om];omega
  rw [b₉,List.drop_left' hl]
  exact d₉ _ _
 have UO:(cs.take (i * 3) ++ vs ++ cs.drop (i * 3)) <+:R2.toList:=by
  rw [Kh,OI]
  obtain⟨z,hz⟩:=NY
  rw [← hz]
  exact⟨z,sm⟩
 have hw1:IntKind.i64.wrap ((i:Int) + 1)=(i:Int) + 1:=by rw [IntKind.wrap_i64];omega
 have Xy:IntKind.i64.wrap ((n:Int) + 1)=(n:Int) + 1:=by rw [IntKind.wrap_i64];omega
 have sM:(0:Int)≤(i:Int) + 1:=om
 have YN:(0:Int)≤(n:Int) + 1:=om
 have xJ:i≤n:=om
 have htn:((i:Int) + 1).toNat=i + 1:=om
 have htm:((n:Int) + 1).toNat=n + 1:=om
 have U8:(i:Int)≤(n:Int) + 1:=om
 have UP: ¬ (c=i):=om
 have j0h: ¬ (c=i + 1):=om
 have mixed:Tryz.prog.follows Departure.mixedOrders=true:=by kernel_rfl
 have Xu:=Ou w.drew rfl
 have hB0:=Oe (w.drew.setRow b R1) rfl
 clear Km Kh OI NY Kt sJ
 go_enter Tryz.func139,Tryz.ntmps139
 go_wp2_with (simp only [YE])
 go_region_law_o (refine oB rfl _ _ 22 22 rfl _ _ (by simp [Act.eval,Act.put]) (by simp [Act.eval,Act.put]) (Xu _ _ _) ?_)
 go_wp2_with (at_builtin;refine lR _ rfl _ _ 22 22 rfl _ _ rfl rfl (hB0 _ _) ?_)
 go_ret
 exact⟨R2,Vi,UO,rfl,R1,rfl⟩
end
section
open Go.RowKit Go.Lib
variable {G:GS}
attribute [local irreducible] ak aB aD aJ aQ vC aY aw
theorem Ea {α β:Type} {R:α→β→Prop} {x0:α} {p0:β} (h0:R x0 p0): ∀(i:Nat) {L:List α} {Q:List β},Q.length=L.length→(∀(j:Nat) x p,L[j]? =some x→Q[j]? =some p→R x p)→∀(j:Nat) x p,(L.take i ++ x0 :: L.drop i)[j]? =some x→(Q.take i ++ p0 :: Q.drop i)[j]? =some p→R x p
 | 0,L,Q,hl,h,j,x,p,hx,hp=>by
  cases j with
  | zero=>simp at hx hp;subst hx;subst hp;exact h0
  | succ j=>exact h j x p (by simpa using hx) (by simpa using hp)
 | i + 1,[],[],hl,h,j,x,p,hx,hp=>by
  cases j with
  | zero=>simp at hx hp;subst hx;subst hp;exact h0
  | succ j=>simp at hx
 | i + 1,[],q :: Q,hl,_,_,_,_,_,_=>by simp at hl
 | i + 1,y :: L,[],hl,_,_,_,_,_,_=>by simp at hl
 | i + 1,y :: L,q :: Q,hl,h,j,x,p,hx,hp=>by
  cases j with
  | zero=>exact h 0 x p (by simpa using hx) (by simpa using hp)
  | succ j=>exact Ea h0 i (by simpa using hl) (fun k u v hu hv=>h (k + 1) u v (by simpa using hu) (by simpa using hv)) j x p (by simpa using hx) (by simpa using hp)
theorem zJ {Q:List (List Value)}:(∀p∈Q,p.length=3)→Q.flatten.length=Q.length * 3:=by
 induction Q with
 | nil=>intro _;rfl
 | cons q Q ih=>
  intro h;rw [b₀,a₄,ih fun p hp=>h p (d₃ _ hp),h q (b₇ ..),e₄];omega
theorem qp: ∀(i:Nat) {Q:List (List Value)},(∀p∈Q,p.length=3)→(Q.take i).flatten=Q.flatten.take (i * 3)∧(Q.drop i).flatten=Q.flatten.drop (i * 3)
 | 0,Q,_=>by simp
 | i + 1,[],_=>by simp
 | i + 1,q :: Q,h=>by
  have hq:=h q (b₇ ..)
  obtain⟨h1,h2⟩:=qp i (Q:=Q) fun p hp=>h p (d₃ _ hp)
  rw [List.take_succ_cons,List.drop_succ_cons,b₀,b₀,h1,h2,show (i + 1) * 3=q.length + i * 3 by omega,List.take_length_add_append,List.drop_length_add_append]
  exact⟨rfl,rfl⟩
theorem JS {w:World} {P:cB} {adr:gG} {L:List MV} {Q:List (List Value)} (hl:Q.length=L.length) (h: ∀(j:Nat) x p,L[j]? =some x→Q[j]? =some p→dk w P adr x p): ∀v∈Q.flatten,v.oneCell'=true:=by
 intro v hv;obtain⟨p,hp,hvp⟩:=List.mem_flatten.1 hv;obtain⟨j,hj⟩:=List.getElem?_of_mem hp;have xX:=(a₂.1 hj).1;exact(h j _ p (b₂ om) hj).one v hvp
theorem zK {B g:Nat} {w0 w:World} (hb:Below B w0 w) (hBg:B≤g) (cs:Array Value):Below B w0 (w.setRow g cs):=
 ⟨hb.os,hb.tape,hb.output,by rw [setRow_size];exact hb.size,fun k hk=>(setRow_other _ _ _ _ om).trans (hb.block k hk)⟩
theorem zL {ex:Fp} {w:World} {g:Nat} (c:Array Value) (hx:ex g):db ex w (w.setRow g c):=⟨rfl,rfl,rfl,sm,fun b _ gf=>setRow_other _ _ _ _ fun e=>gf (e▸hx)⟩
theorem xA {w:World} {g:Nat} {cur:Array Value} {ty:TypeId} (hg:w.heap[g]? =some (.cells cur ty (0,0))) {cs:List Value} (hp:cs <+:cur.toList) {j:Nat} {v:Value} (hj:cs[j]? =some v):w.cell? ⟨g,j,none⟩=some v:=by
 have h1:cur[j]? =some v:=by rw [← Array.getElem?_toList];exact eH hp hj
 unfold World.cell?;rw [hg];exact h1
theorem HU {b0:MB} {c:Nat} {b:MB} (h:VM.get [(2,b0)] c=some b):aR (fun _=>none) 2 b0 c=some b:=by
 rw [VM.get_cons] at h;by_cases e:c=2
 ·subst e;rw [aI];exact h
 ·rw [if_neg (Ne.symm e)] at h;cases h
theorem Nz {w:World} {P:cB} {adr:gG} {m:FM} (h:bf w P adr m):bf w.drew P adr m∧bJ w w.drew P P adr adr:=by
 have k:bJ w w.drew P P adr adr:=⟨fun _ _ h=>h,fun _ _ _=>rfl,fun _ _ h=>h,fun _ _ cur _ _ h=>⟨cur,h,rfl⟩⟩;refine⟨⟨fun c b hc=>?_,h.inj,h.prot⟩,k⟩;rcases h.blk c b hc with h1 | ⟨g,h1,h2⟩
 ·exact .inl h1
 ·exact .inr ⟨g,h1,h2.keep k rfl fun _ h=>h⟩
theorem JT (l:List bd) (a:bd) (i:Nat) (hi:i < l.length) (hl:l.length≤100000):aT Tryz.prog G 139 [.ms 0 3 0 l.length, .int .i64 i, .ms 1 3 0 1] [(0,dE l),(1,dE [a])] 2 (.ms 2 3 0 (l.length + 1)) [(2,dE (l.take i ++ a :: l.drop i))] 3:=by
 intro w P adr dY hg hI hn hL dj;cases dj with | cons a1 dj=>cases dj with | cons a2 dj=>cases dj with | cons a3 dj=>
 cases dj;have e2:=a2.int_;subst e2;rcases a1.ms_ with ⟨_,_,h0⟩ | ⟨g,o,cap,yB,rfl,ho,iq,hcm,Gf,ty0,F9,Ek⟩
 ·omega
 rcases a3.ms_ with ⟨_,_,h0⟩ | ⟨gv,ov,XZ,XI,rfl,YE,e0u,_,_⟩
 ·omega
 have ho:o=0:=by simpa using ho (.inr rfl)
 subst ho;have YE:ov=0:=by simpa using YE (.inr rfl)
 subst YE;have Ek:=Ek rfl
 -- what memory holds
 rcases hI.blk 0 (dE l) rfl with ⟨_,h2,_⟩ | ⟨g',h1,h2⟩
 ·have:(dE l).l.length=0:=by rw [h2];rfl
  rw [show (dE l).l.length=l.length from a₉ _] at this;omega
 rw [yB] at h1;injection h1 with h1
 subst h1;obtain⟨cur,Q,hw,SN,SZ,VA,Zd⟩:=h2.ofR rfl;rcases hI.blk 1 (dE [a]) rfl with ⟨_,h3,_⟩ | ⟨g',h1,h3⟩
 ·cases h3
 rw [XI] at h1;injection h1 with h1
 subst h1;obtain⟨Ow,V,hwv,Z4,hV3,hVr,hVp⟩:=h3.ofR rfl;have gf:gv≠g:=fun e=>absurd (hI.inj 1 0 _ _ g rfl rfl (by rw [← e];exact XI) yB) (by decide)
 rw [F9] at hw;injection hw with hw
 injection hw with hw ht
 subst hw;subst ht;have SN:Q.length=(l.map aV).length:=SN;have Z4:V.length=1:=Z4;obtain⟨p,rfl⟩: ∃p,V= [p] :=by
  match V,Z4 with
  | [p],_=>exact ⟨p,rfl⟩
 have Xk:p.length=3:=hV3 p sm;have zQ:dk w P noAdr (aV a) p:=hVr 0 _ _ rfl rfl;rw [b₀,List.flatten_nil,e₉] at hVp;have VA: ∀(j:Nat) x p,(l.map aV)[j]? =some x→Q[j]? =some p→dk w P noAdr x p:=VA
 have SZ: ∀p∈Q,p.length=3:=SZ
 have sG:Q.flatten.length=l.length * 3:=by rw [zJ SZ,SN,a₉]
 have VH:=JS SN VA;have VG: ∀v∈p,v.oneCell'=true:=zQ.one
 have tU: ∀j v,p[j]? =some v→w.cell? ⟨gv,j,none⟩=some v:=fun j v hj=>xA hwv hVp hj
 -- the row behind it
 have hQn: ∀(j:Nat) x q,((l.take i ++ a :: l.drop i).map aV)[j]? =some x→(Q.take i ++ p :: Q.drop i)[j]? =some q→dk w P noAdr x q:=by
  rw [c₄,b₆,List.map_take,List.map_drop];exact Ea zQ i SN VA
 have Xn: ∀q∈Q.take i ++ p :: Q.drop i,q.length=3:=by
  intro q hq;rcases List.mem_append.1 hq with h | h
  ·exact SZ q (List.mem_of_mem_take h)
  ·rcases b₃.1 h with rfl | h
   ·exact Xk
   ·exact SZ q (c₃ h)
 have Xh:(Q.take i ++ p :: Q.drop i).length=((l.take i ++ a :: l.drop i).map aV).length:=by
  simp only [a₄,e₄,c₀,d₀,a₉];rw [SN,a₉]
 have XC:(Q.take i ++ p :: Q.drop i).flatten=Q.flatten.take (i * 3) ++ p ++ Q.flatten.drop (i * 3):=by
  rw [List.flatten_append,b₀,(qp i SZ).1,(qp i SZ).2,b₉]
 have h2n:=hn 2 (b₁ _);by_cases fK:cap < l.length + 1
 ·refine(Ny g 0 l.length cap i gv 0 XZ Q.flatten p w hi iq fK om sG Xk (fun j v hj=>by rw [b₈];exact xA F9 Zd hj) (fun j v hj=>by rw [b₈];exact tU j v hj) VH VG).mono ?_;rintro e w' ⟨C,hC1,hC2,ROW,hR,hRp,rfl,R1,R0,rfl⟩;have hb:Below w.heap.size w ((((w.alloc (.cells R0 91)).drew.setRow w.heap.size R1).drew).setRow w.heap.size ROW):=
   zK (zK (Below.alloc1 w _).drew (b₁ _) _).drew (b₁ _) _
  have SJ:((((w.alloc (.cells R0 91)).drew.setRow w.heap.size R1).drew).setRow w.heap.size ROW).heap[w.heap.size]? =some (.cells ROW 91 (0,0)):=
   setRow_heap _ _ R1 ROW _ _ (setRow_heap _ _ R0 R1 _ _ (heap_alloc_new w _))
  generalize ((((w.alloc (.cells R0 91)).drew.setRow w.heap.size R1).drew).setRow w.heap.size ROW)=w' at *;have Ov:bf w P adr (fun _=>none):=hI.sub fun c b hc=>nomatch hc
  obtain⟨k1,k2⟩:=Ov.new (b:=dE (l.take i ++ a :: l.drop i)) h2n rfl hb SJ Xh Xn (fun j x q hx hq=>hQn j x q hx hq) (by rw [XC];exact hRp) (a₇ _);refine⟨_,rfl,P,aR adr 2 w.heap.size,k1.sub fun c b hc=>?_, .val [_] (.ms w.heap.size 0 C (aI _ _ _) (fun _=>by simp) hC1 hC2 ⟨ROW,_,SJ,fun _=>hR⟩),k2,fun c hc=>aL _ _ om,fun c hc=>?_,fun c g hc=>?_,fun b o hb=> .inl hb,(db.of_below hb).weak fun _ e=>e.elim⟩
  ·exact HU hc
  ·rw [aL _ _ om];exact hn c om
  ·by_cases e:c=2
   ·subst e;rw [aI] at hc;injection hc with hc
    exact .inl om
   ·rw [aL _ _ e] at hc;exact .inr ⟨c,hc⟩
 ·refine(JR g l.length cap i gv XZ Q.flatten p Gf Ow _ w hi om hcm gf F9 Ek hwv sG Xk Zd tU VH VG).mono ?_;rintro e w' ⟨ROW,hR,hRp,rfl,R1,rfl⟩;rw [setRow_setRow];obtain⟨hI1,xW⟩:=Nz hI;have hI2:bf w.drew P adr (aR (fun _=>none) 0 (dE l)):=hI1.sub fun c b hc=>by
   by_cases e:c=0
   ·subst e;rw [aI] at hc;exact hc
   ·rw [aL _ _ e] at hc;cases hc
  have hpg: ∀o,¬ P g o:=fun o ho=>absurd (h2.pe o ho) (f₀ _)
  have gM:ROW.size=Gf.size:=by rw [hR,Ek]
  obtain⟨k1,k2⟩:=hI2.write (c:=0) (g:=g) (b:=dE l) (b':=dE (l.take i ++ a :: l.drop i)) (cur:=Gf) (cur':=ROW) (by show(l.map aV).length≤((l.take i ++ a :: l.drop i).map aV).length;simp;omega) (aI _ _ _) yB rfl rfl rfl F9 gM (fun o ho=>absurd ho (hpg o)) Xh Xn (fun j x q hx hq=>(hQn j x q hx hq).keep xW.free) (by rw [XC];exact hRp);have e0:aR (aR (fun _=>none) 0 (dE l)) 0 (dE (l.take i ++ a :: l.drop i))=aR (fun _=>none) 0 (dE (l.take i ++ a :: l.drop i)):=by
   funext x;by_cases e:x=0
   ·subst e;rw [aI,aI]
   ·rw [aL _ _ e,aL _ _ e,aL _ _ e]
  rw [e0] at k1;obtain⟨k3,k4⟩:=k1.rename (d:=2) yB h2n rfl;have J8:=(xW.trans k2).trans k4;refine⟨_,rfl,P,aR adr 2 g,k3.sub fun c b hc=>?_, .val [_] (.ms g 0 cap (aI _ _ _) (fun _=>by simp) om hcm ⟨ROW,_,setRow_heap _ _ Gf ROW _ _ F9,fun _=>hR⟩),J8,fun c hc=>aL _ _ om,fun c hc=>?_,fun c g' hc=>?_,fun b o hb=> .inl hb,?_⟩
  ·have:=HU hc;by_cases e:c=2
   ·subst e;rw [aI] at this ⊢;exact this
   ·rw [aL _ _ e] at this;cases this
  ·rw [aL _ _ om];exact hn c om
  ·by_cases e:c=2
   ·subst e;rw [aI] at hc;injection hc with hc
    exact .inr ⟨0,by rw [← hc];exact yB⟩
   ·rw [aL _ _ e] at hc;exact .inr ⟨c,hc⟩
  ·have hs:=zL (w:=w.drew) (ex:=fun b=> ∃c0,adr c0=some b) (g:=g) ROW ⟨0,yB⟩;exact⟨hs.os,hs.tape,hs.output,hs.size,hs.block⟩
end
section
open Go.RowKit Go.Lib Go.Shelf Go.Sort
variable {G:GS}
theorem encA_len (a:bd):(jV a).length=3:=rfl
theorem QY {w:World} {P:cB} {adr:gG} {a:bd} {p:List Value} (h:dk w P adr (aV a) p):p=jV a:=by
 unfold aV at h;cases h with
 | st parts hp hr=>
  match parts,hp with
  | [p1,p2,p3],_=>
   have h1:=hr 0 _ p1 rfl rfl;have h2:=hr 1 _ p2 rfl rfl;have h3:=hr 2 _ p3 rfl rfl;cases h1;cases h2;cases h3;rfl
theorem QZ (w:World) (P:cB) (adr:gG) (a:bd):dk w P adr (aV a) (jV a):=by
 have h:dk w P adr (.st [.str a.name, .int .u64 a.bal, .int .u64 a.seq]) ([[.string ⟨a.name.toArray⟩],[.int .u64 a.bal],[.int .u64 a.seq]] :List (List Value)).flatten:= .st _ rfl (fun j m p hm hp=>by
  match j with
  | 0=>simp at hm hp;subst hm;subst hp;exact .str
  | 1=>simp at hm hp;subst hm;subst hp;exact .int
  | 2=>simp at hm hp;subst hm;subst hp;exact .int
  | j + 3=>simp at hm)
 exact h
theorem zM {w:World} {P:cB} {adr:gG}: ∀{l:List bd} {Q:List (List Value)},Q.length=(l.map aV).length→(∀(j:Nat) x p,(l.map aV)[j]? =some x→Q[j]? =some p→dk w P adr x p)→Q=l.map jV
 | [],[],_,_=>rfl
 | [],_ :: _,h,_=>by simp at h
 | _ :: _,[],h,_=>by simp at h
 | a :: l,q :: Q,h,hr=>by
  rw [QY (hr 0 _ q rfl rfl),b₆,zM (l:=l) (Q:=Q) (by simpa using h) fun j x p hx hp=>hr (j + 1) x p (by simpa using hx) (by simpa using hp)]
theorem Eb: ∀(l:List bd) (j:Nat),j < l.length * 3→(l.map jV).flatten[j]? =(jV (l.getD (j / 3) ac0))[j % 3]?
 | [],j,h=>by simp at h
 | a :: l,j,h=>by
  rw [b₆,b₀]
  by_cases hj:j < 3
  ·rw [c₉ (by rw [encA_len];exact hj),show j / 3=0 by omega,show j % 3=j by omega]
   rfl
  ·have h':j - 3 < l.length * 3:=by simp at h;omega
   rw [c₈ (by rw [encA_len];omega),encA_len,Eb l (j - 3) h',show j / 3=(j - 3) / 3 + 1 by omega,show (j - 3) % 3=j % 3 by omega]
   rfl
theorem xB (d:Array bd):(Go.Sort.flatK jV 3 d).toList=(d.toList.map jV).flatten:=by
 apply e₂;intro j;have hl:(d.toList.map jV).flatten.length=d.size * 3:=by
  rw [zJ (fun p hp=>by obtain⟨a,_,rfl⟩:=e₀.1 hp;rfl),a₉,Array.length_toList]
 by_cases hj:j < d.size * 3
 ·rw [Eb _ _ (by rw [Array.length_toList];exact hj),Array.getElem?_toList,Array.getElem?_eq_getElem (by rw [size_flatK];exact hj)];have h1:=get_flatK jV 3 d j hj;rw [getElem!_pos _ _ (by rw [size_flatK];exact hj)] at h1;rw [h1];have h2:d[j / 3]! =d.toList.getD (j / 3) ac0:=by
   rw [getElem!_pos _ _ om,List.getD_eq_getElem?_getD,Array.getElem?_toList,Array.getElem?_eq_getElem om];rfl
  rw [h2,b₂ (by rw [encA_len];omega),getElem!_pos _ _ (by rw [encA_len];omega)]
 ·rw [c₂ (by rw [Array.length_toList,size_flatK];omega),c₂ (by rw [hl];omega)]
theorem JU {w:World} {g:Nat} {cur:Array Value} {ty:TypeId} (hg:w.heap[g]? =some (.cells cur ty (0,0))) (F:Array Value) (hF:F.size≤cur.size) :
  ∃row:Array Value,row.size=cur.size∧F.toList <+:row.toList∧putRow id w g 0 F=w.setRow g row:=by
 refine⟨putCells id 0 F cur,by simp [putCells],?_,?_⟩
 ·rw [List.prefix_iff_eq_take]
  apply e₂
  intro j
  rw [d₇,Array.length_toList]
  split
  ·rename_i hj
   rw [Array.getElem?_toList,Array.getElem?_toList,Array.getElem?_eq_getElem hj,Array.getElem?_eq_getElem (by simp [putCells];omega)]
   simp [putCells,hj]
  ·rename_i hj
   rw [c₂ (by rw [Array.length_toList];omega)]
 ·unfold putRow
  rw [mapBlock_congr w g _ (fun _=>putCells id 0 F cur) (fun c e fr h=>by rw [hg] at h;injection h with h;injection h with h;rw [h])]
  unfold mapBlock World.setRow
  congr 1
def xC (P:Program) (f g1:FuncId):Prop:= ∀(g cap:Nat) (d:Array bd) (w:World),HoldsK jV 3 w g 0 d→g < w.heap.size→d.size < 4611686018427387904→
 Calls P f #[.slice (some ⟨g,0,none⟩) d.size cap, .func (.func g1) #[] #[]] w fun e w'=>e= .returned (.tuple #[])∧∃d' n os,PermIn 0 d.size d d'∧SortedIn (ltOf fun x y:bd=>kA x.name y.name) 0 d.size d'∧w'=sortWorldK jV 3 w g 0 n d' os
theorem pq (a b:bd):ltOf (fun x y:bd=>kA x.name y.name) a b=Op.bytesLess a.name b.name:=by
 unfold ltOf;have:=Bf a.name b.name;cases h:Op.bytesLess a.name b.name with
 | true=>exact decide_eq_true (this.2 h)
 | false=>exact decide_eq_false fun hh=>by rw [this.1 hh] at h;cases h
theorem Ec {l:List bd} {d':Array bd} (hp:PermIn 0 l.toArray.size l.toArray d') (hs:SortedIn (ltOf fun x y:bd=>kA x.name y.name) 0 l.toArray.size d'):d'.toList.Perm l∧d'.toList.Pairwise (fun a b=>Op.bytesLess b.name a.name=false):=by
 obtain⟨h1,_,h3⟩:=hp;have e1:d'.extract 0 l.toArray.size=d':=by rw [← h1];exact Array.extract_size
 have e2:l.toArray.extract 0 l.toArray.size=l.toArray:=Array.extract_size;rw [e1,e2] at h3;refine⟨h3,List.pairwise_iff_getElem.2 fun i j hi hj Oj=>?_⟩;rw [Array.length_toList] at hi hj;have:=hs i j (a₇ _) Oj om;rw [pq,getElem!_pos d' j hj,getElem!_pos d' i hi] at this;exact this
theorem Uf {w:World} {P:cB} {adr:gG} {f:FuncId} {v:Value} (h:aM w P adr (.fn f []) v):v= .func (.func f) #[] #[] :=by
 cases h with
 | val cs h=>
  cases h with
  | fn parts hp hr=>
   match parts,hp with
   | [],_=>rfl
theorem JV (hS:xC Tryz.prog 75 76) (l l':List bd) (uD:l≠ []) (hl:l.length≤100000) (hd:l.Pairwise (fun a b=>a.name≠b.name)) (hs:eN l') (hp:l'.Perm l) :
    aT Tryz.prog G 75 [.ms 0 3 0 l.length, .fn 76 []] [(0,dE l)] 1 (.tup []) [(0,dE l')] 1:=by
  have X7:0 < l.length:=List.length_pos_iff.2 uD
  intro w P adr dY hg hI hn hL dj
  cases dj with | cons a1 dj=>cases dj with | cons a2 dj=>
  cases dj
  have e2:=Uf a2
  subst e2
  rcases a1.ms_ with ⟨_,_,h0⟩ | ⟨g,o,cap,yB,rfl,ho,iq,hcm,Gf,ty0,F9,Ek⟩
  · omega
  have ho:o=0:=by simpa using ho (.inr rfl)
  subst ho
  have Ek:=Ek rfl
  rcases hI.blk 0 (dE l) rfl with ⟨_,h2,_⟩ | ⟨g',h1,h2⟩
  · have:(dE l).l.length=0:=by rw [h2];rfl
    rw [show (dE l).l.length=l.length from a₉ _] at this
    omega
  rw [yB] at h1
  injection h1 with h1
  subst h1
  obtain⟨cur,Q,hw,SN,SZ,VA,Zd⟩:=h2.ofR rfl
  rw [F9] at hw
  injection hw with hw
  injection hw with hw ht
  subst hw
  subst ht
  have hQe:Q=l.map jV:=zM SN VA
  subst hQe
  have hpg: ∀o,¬ P g o:=fun o ho=>absurd (h2.pe o ho) (f₀ _)
  have hH:HoldsK jV 3 w g 0 l.toArray:=fun j hj=>by
    rw [size_flatK] at hj
    have h1:(Go.Sort.flatK jV 3 l.toArray).toList[j]? =some (Go.Sort.flatK jV 3 l.toArray)[j]! :=by
      rw [Array.getElem?_toList,Array.getElem?_eq_getElem (by rw [size_flatK];exact hj),getElem!_pos _ _ (by rw [size_flatK];exact hj)]
    rw [xB] at h1
    refine⟨?_,by simp [World.frozen?,F9]⟩
    rw [b₈]
    exact xA F9 Zd h1
  have eS:g < w.heap.size:=(Array.getElem?_eq_some_iff.1 F9).1
  refine(hS g cap l.toArray w hH eS (by simp;omega)).mono ?_
  rintro e w' ⟨rfl,d',m,os,Yx,vk,rfl⟩
  obtain⟨k1,k2⟩:=Ec Yx vk
  have Bq:d'.toList=l':=D0 (yx k1 hd k2) hs (k1.trans hp.symm)
  have VL:d'.size=l.length:=Yx.1
  obtain⟨row,SS,xY,hr3⟩:=JU (w:=Sort.ahead w m) (g:=g) F9 (Go.Sort.flatK jV 3 d') (by rw [size_flatK,VL,Ek];exact Nat.mul_le_mul_right 3 iq)
  unfold sortWorldK putRowK
  rw [hr3]
  rw [xB,Bq] at xY
  have hka:bJ w (Sort.ahead w m) P P adr adr:=⟨fun _ _ h=>h,fun _ _ _=>rfl,fun _ _ h=>h,fun _ _ cur _ _ h=>⟨cur,h,rfl⟩⟩
  have hIa:bf (Sort.ahead w m) P adr (aR (fun _=>none) 0 (dE l)):=by
    refine⟨fun c b hc=>?_,fun c c' b b' g hc uE=>hI.inj c c' b b' g ?_ ?_,hI.prot⟩
    · by_cases e:c=0
      · subst e
        rw [aI] at hc
        injection hc with hc
        subst hc
        exact .inr ⟨g,yB,h2.keep hka rfl fun _ h=>h⟩
      · rw [aL _ _ e] at hc;cases hc
    all_goals
      first
        | (by_cases e:c=0
           · subst e;rw [aI] at hc;exact hc
           · rw [aL _ _ e] at hc;cases hc)
        | (by_cases e:c'=0
           · subst e;rw [aI] at uE;exact uE
           · rw [aL _ _ e] at uE;cases uE)
  have xL:l'.length=l.length:=hp.length_eq
  obtain⟨j1,j2⟩:=hIa.write (c:=0) (g:=g) (b:=dE l) (b':=dE l') (cur:=Gf) (cur':=row) (by show(l.map aV).length≤(l'.map aV).length;simp;omega) (aI _ _ _) yB rfl rfl rfl F9 SS (fun o ho=>absurd ho (hpg o)) (parts:=l'.map jV) (by show(l'.map jV).length=(l'.map aV).length;simp) (fun p hp=>by obtain⟨a,_,rfl⟩:=e₀.1 hp;rfl) (fun j x p hx hp=>by
    have hx:(l'.map aV)[j]? =some x:=hx
    rw [List.getElem?_map] at hx hp
    cases hj:l'[j]? with
    | none=>rw [hj] at hx;cases hx
    | some a=>
      rw [hj] at hx hp
      injection hx with hx
      injection hp with hp
      subst hx hp
      exact QZ _ _ _ _) xY
  have hb:Below ((Sort.ahead w m).setRow g row).heap.size ((Sort.ahead w m).setRow g row) (grow ((Sort.ahead w m).setRow g row) os):=
    ⟨rfl,rfl,rfl,sm,fun k hk=>by
      show((((Sort.ahead w m).setRow g row).heap ++ os))[k]? =_
      rw [Array.getElem?_append_left hk]⟩
  have e0:aR (aR (fun _=>none) 0 (dE l)) 0 (dE l')=aR (fun _=>none) 0 (dE l'):=by
    funext x
    by_cases e:x=0
    · subst e;rw [aI,aI]
    · rw [aL _ _ e,aL _ _ e,aL _ _ e]
  rw [e0] at j1
  have YQ:=bJ.below' (adr:=adr) j1.prot hb
  have j3:bf (grow ((Sort.ahead w m).setRow g row) os) P adr (aR (fun _=>none) 0 (dE l')):=by
    refine⟨fun c b hc=>?_,j1.inj,fun b o h=>e₁ (j1.prot b o h) hb.size⟩
    rcases j1.blk c b hc with h | ⟨g',h,h'⟩
    · exact .inl h
    · exact .inr ⟨g',h,h'.keep YQ (hb.block _ h'.lt) fun _ h=>h⟩
  refine⟨_,rfl,P,adr,j3.sub fun c b hc=>?_, .tup [] rfl (fun j m u hm=>by simp at hm),(hka.trans j2).trans YQ,fun _ _=>rfl,hn,fun c g hc=> .inr ⟨c,hc⟩,fun b o ho=> .inl ho,?_⟩
  · rw [VM.get_cons] at hc
    by_cases e:c=0
    · subst e
      rw [aI]
      exact hc
    · rw [if_neg (Ne.symm e)] at hc
      cases hc
  · have hs:=zL (w:=Sort.ahead w m) (ex:=fun b=> ∃c0,adr c0=some b) (g:=g) row ⟨0,yB⟩
    refine⟨rfl,rfl,rfl,Nat.le_trans hs.size hb.size,fun b sM gf=>?_⟩
    have iY:b < ((Sort.ahead w m).setRow g row).heap.size:=e₁ sM hs.size
    exact(hb.block b iY).trans (hs.block b sM gf)
end
section
variable {G:GS}
attribute [local irreducible] ak aB aD aJ aQ vC aY aw
theorem Q0:aE Tryz.prog G 189 [.int .u64 0] (.int .i64 0):=by
 refine bA seat Tryz.func189 25 ?_;refine aa ?_;refine au ?_;rfl
theorem Wp:aE Tryz.prog G 125 [.int .u64 0] (.int .i64 0):=by
 have c1:=Q0 (G:=G);refine bA seat Tryz.func125 8 ?_;refine aa ?_;refine dZ (c1) ?_;refine au ?_;rfl
theorem Wq:aT Tryz.prog G 180 [.ms 0 3 0 0, .int .i64 0, .int .i64 0, .fn 76 []] [(0,dE [])] 1 (.tup []) [(0,dE [])] 1:=by
 unfold dE;refine dK seat Tryz.func180 53 ?_;refine aa ?_;refine av Unit (fun _=> [(8, .int .i64 1),(2, .int .i64 0)]) (fun _=> [(0,⟨91,3,true,0,([] :List bd).map aV⟩)]) 1 (fun _=>True) (fun _=>0) () trivial (vm [] []) ?_;rintro⟨⟩ -;try dsimp only
 refine aa ?_;exact en []
theorem Wr:aT Tryz.prog G 124 [.ms 0 3 0 0, .int .i64 0, .int .i64 0, .int .i64 0, .fn 76 []] [(0,dE [])] 1 (.tup []) [(0,dE [])] 1:=by
 have c1:=Wq (G:=G);unfold dE at *;refine dK seat Tryz.func124 148 ?_;refine aa ?_;refine av Unit (fun _=> [(0, .ms 0 3 0 0),(1, .int .i64 0),(2, .int .i64 0),(4, .fn 76 [])]) (fun _=> [(0,⟨91,3,true,0,([] :List bd).map aV⟩)]) 1 (fun _=>True) (fun _=>0) () trivial (vm [] []) ?_;rintro⟨⟩ -;try dsimp only
 refine aa ?_;refine yc (c1) [(0,0)] ?_;refine aa ?_;exact en []
theorem JW:aT Tryz.prog G 75 [.ms 0 3 0 0, .fn 76 []] [(0,dE [])] 1 (.tup []) [(0,dE [])] 1:=by
 have c1:=Wr (G:=G);have c2:=Wp (G:=G);unfold dE at *;refine dK seat Tryz.func75 14 ?_;refine aa ?_;refine dZ (c2) ?_;refine yc (c1) [(0,0)] ?_;refine aa ?_;exact en []
theorem Ug (hS:xC Tryz.prog 75 76) (l l':List bd) (hl:l.length≤100000) (hd:l.Pairwise (fun a b=>a.name≠b.name)) (hs:eN l') (hp:l'.Perm l) :
  aT Tryz.prog G 75 [.ms 0 3 0 l.length, .fn 76 []] [(0,dE l)] 1 (.tup []) [(0,dE l')] 1:=by
 by_cases h:l= []
 ·subst h
  have e:=d₆.1 hp
  subst e
  exact JW
 ·exact JV hS l l' h hl hd hs hp
def Bk (ks:List (List UInt8)):MV:= .mpv (ks.map .str) (a₀ ks.length (.st []))
theorem JX (n i:Nat):setL (a₀ n (MV.st [])) i (.st [])=a₀ n (.st []):=by
 rw [setL_eq];apply List.ext_getElem
 ·simp
 ·intro k h1 h2;simp [List.getElem_set]
theorem JY {Pg:Program} {E:VE} {M:VM} {o:Oper} {x:Operand} {t k e:TypeId} {c:Nat} {b:MB} {ks vs:List MV} (ho:o.op= .call ⟨.builtin .len, #[x], #[t]⟩) (hx:jL (VE.get E) x=some (.mp c)) (hc:VM.get M c=some b) (hb:b.l= [.mpv ks vs]) (hu:Pg.underlying t=some (.map k e)) (hl:vs.length=ks.length):ta Pg E M o=some ks.length:=by
 unfold ta;rw [ho];dsimp only;rw [hx];dsimp only;rw [hc];dsimp only;rw [hb];dsimp only;rw [hu];dsimp only;rw [if_pos hl]
theorem Q6 (l:eh) (t:jX) (hl:l.acs.length≤100000) (hs:eN l.acs) (ht:jz t):aE Tryz.prog G 137 [eo l,pR t] (.int .i64 (iX l.acs t.trs []).length):=by
 obtain⟨snd,seq,gas,fee,memo,trs⟩:=t;obtain⟨h1,h2,h3,h4,h5,h6,h7⟩:=ht;dsimp only at h1 h2 h3 h4 h5 h6 h7;have cp:=fun nm=>DZ (G:=G) l nm hl hs
 obtain⟨acs,col⟩:=l;dsimp only at hl hs cp ⊢;generalize hR:iX acs trs [] =R;unfold eo at cp;unfold eo pR;dsimp only at cp ⊢;refine bA seat Tryz.func137 34 ?_;refine aa ?_;refine av (Nat×List (List UInt8)) (fun x=> [(14, .int .i64 x.1),(13, .int .i64 trs.length),(12, .sl trs.length (trs.map mU)),(5, .mp 2),(2, .ptr 0 2 0 0 [])]) (fun x=> [(0,⟨33,2,false,0,[.st [.sl acs.length (acs.map aV), .int .u64 col]]⟩),(2,⟨132,0,false,0,[Bk x.2]⟩)]) 3 (fun x=>x.1≤trs.length∧x.2.length≤x.1∧iX acs (trs.drop x.1) x.2=R) (fun x=>trs.length - x.1) (0,[]) ⟨a₇ _,b₁ _,by rw [b₄];exact hR⟩ (by dsimp only;exact(vm [(0,_),(2,_)] [])) ?_;clear hR;rintro⟨k,ks⟩ ⟨hk,Er,hR⟩;unfold Bk;try dsimp only
 dsimp only at hk Er hR;refine aa ?_;refine ad rfl ?_ ?_ <;> intro h
 ·have aC:k < trs.length:=by have:=ot h;omega
  have aH:=mH aC;rw [a₃ aC,iX] at hR;have c1:=cp trs[k].to_;generalize trs[k] =x at *;obtain⟨to_,amt⟩:=x;dsimp only at c1 hR;replace aH:bI (trs.map mU) trs.length (k:Int)=some (.st [.str to_, .int .u64 amt]):=aH;have aH:=aj.mk aH;generalize posA to_ acs=pp at *;cases hb:(bE acs to_).2 with
  | true=>
   rw [hb] at c1 hR;rw [if_pos rfl] at hR;refine aa ?_;refine dZ (c1) ?_;exact⟨(k + 1,ks),⟨dm,dm,hR⟩,dm,(by dsimp only;exact(vm [(0,_),(2,_)] []))⟩
  | false=>
   rw [hb] at c1 hR;rw [if_neg sm] at hR;unfold JN at hR;by_cases hm:to_∈ks
   ·rw [if_pos hm] at hR;obtain⟨j,hj,xX⟩:=tQ (i:=0) hm;have hj:=aj.mk hj;have hz:=bH.mk (show(a₀ ks.length (MV.st [])).length=(ks.map MV.str).length by simp);have hv:=aX.mk (show [MV.mpv (ks.map MV.str) (setL (a₀ ks.length (MV.st [])) (0 + j) (.st []))] = [MV.mpv (ks.map MV.str) (a₀ ks.length (.st []))] by rw [JX]);refine aa ?_;refine dZ (c1) ?_;exact⟨(k + 1,ks),⟨dm,dm,hR⟩,dm,(by dsimp only;exact(vm [(0,_),(2,_)] []))⟩
   ·rw [if_neg hm] at hR;have hj:=aj.mk (xx (i:=0) hm);have hz:=bH.mk (show(a₀ ks.length (MV.st [])).length=(ks.map MV.str).length by simp);have hv:=aX.mk (show [MV.mpv (ks.map MV.str ++ [.str to_]) (a₀ ks.length (MV.st []) ++ [.st []])] = [MV.mpv ((ks ++ [to_]).map MV.str) (a₀ (ks ++ [to_]).length (.st []))] by rw [c₄,a₄,a₈,d₄];rfl);refine aa ?_;refine dZ (c1) ?_;exact⟨(k + 1,ks ++ [to_]),⟨dm,by simp;omega,hR⟩,dm,(by dsimp only;exact(vm [(0,_),(2,_)] []))⟩
 ·have aC:k=trs.length:=by have:=oF h;omega
  subst aC;rw [a₆,iX] at hR;subst hR;refine aa ?_;refine Tk (k:=ks.length) ?_ rfl ?_
  ·refine Eq.trans (JY (ks:=ks.map MV.str) (vs:=a₀ ks.length (.st [])) (b:=⟨132,0,false,0,[.mpv (ks.map MV.str) (a₀ ks.length (.st []))]⟩) (c:=2) (k:=9) (e:=134) (t:=132) (x:= .tmp 32) ?_ ?_ ?_ rfl (by kernel_rfl) sm) (congrArg some (a₉ _));all_goals rfl
  refine aa ?_;refine au ?_;rfl
theorem NA (l:List bd) (col:Nat) (hc:bm col) (hl:l.length≤100000) (hs: ∀a∈l,bm a.bal):aT Tryz.prog G 74 [.st [.ms 0 3 0 l.length, .int .u64 col]] [(0,dE l)] 1 (.tup [.int .u64 (totS l col).1, .bool (totS l col).2]) [(0,dE l)] 1:=by
 have cs:=FW (G:=G) (col :: l.map (·.bal)) (by simp;omega) (by
  intro a ha;rcases b₃.1 ha with rfl | ha
  ·exact hc
  ·obtain⟨x,hx,rfl⟩:=e₀.1 ha;exact hs x hx)
 rw [DU l hc] at cs;generalize totS l col=p at *;obtain⟨v,b⟩:=p;dsimp only at cs ⊢;have yE:(col :: l.map (·.bal)).length=l.length + 1:=sm;unfold dE;refine dK seat Tryz.func74 27 ?_;refine aa ?_;refine av Nat (fun k=> [(13, .int .i64 k),(12, .int .i64 l.length),(11, .ms 0 3 0 l.length),(4, .ms 1 1 0 (k + 1))]) (fun k=> [(0,⟨91,3,true,0,l.map aV⟩),(1,⟨23,1,true,0,fZ (col :: (l.take k).map (·.bal))⟩)]) 2 (fun k=>k≤l.length) (fun k=>l.length - k) 0 (a₇ _) (by rw [List.take_zero];exact(vm [(1,_)] [])) ?_;intro k hk;try dsimp only
 refine aa ?_;refine ad rfl ?_ ?_ <;> intro h
 ·have aC:k < l.length:=by have:=ot h;omega
  have aH:=Ue aC;have cW:=xu col l aC;have ni:(fZ (col :: (l.take k).map (·.bal))).length=k + 1:=by simp [fZ];omega
  generalize l[k] =x at *;obtain⟨nm,bal,seq⟩:=x;dsimp only at cW;replace aH:cE (l.map aV) (0 + k)=some (.st [.str nm, .int .u64 bal, .int .u64 seq]):=aH;have aH:=aj.mk aH;refine aa ?_;refine aO rfl rfl (by intro R hR;refine da hR ?_;(refine c₇ (b₁ _) ?_;refine⟨_,rfl,?_⟩;refine c₇ ⟨ni,ai (by kernel_rfl) pf⟩ ?_;refine⟨fZ (col :: (l.take (k + 1)).map (·.bal)),sv (by rw [cW];rfl),k + 1 + 1,sv pf,?_⟩);exact hR) rfl ?_;refine aa ?_;exact⟨k + 1,by show k + 1≤l.length;omega,by show l.length - (k + 1) < l.length - k;omega,(by dsimp only;exact(vm [(1,_)] []))⟩
 ·have aC:k=l.length:=by have:=oF h;omega
  subst aC;rw [e₅];have hlen:l.length=l.length:=rfl;generalize hZ:col :: l.map (·.bal)=Z at *;rw [← yE];refine aa ?_;refine cX rfl aA rfl (dL cs) rfl [(1,Z.length)] ⟨(by show Z.length≤(fZ Z).length;simp [fZ]),trivial⟩ lm ?_;refine aa ?_;exact en [_,_]
theorem Q7 (hS:xC Tryz.prog 75 76) (l:List bd) (hl:l.length≤100000) (eP: ∀a∈l,pB a):aT Tryz.prog G 45 [.sl l.length (l.map aV)] [] 0 (.tup [eo (kD l).1, .int .i64 (kD l).2]) [] 0:=by
 generalize hQ:kD l=Q;obtain⟨⟨Ql,Qc⟩,Qe⟩:=Q;unfold kD at hQ;unfold eo;dsimp only;by_cases hn:256 < l.length
 ·rw [if_pos hn] at hQ;simp only [lg0,a₁,eh.mk.injEq] at hQ;obtain⟨⟨rfl,rfl⟩,rfl⟩:=hQ;refine dK seat Tryz.func45 57 ?_;refine aa ?_;refine ad rfl ?_ ?_ <;> intro h
  ·have _h0:=h;refine aa ?_;refine au ?_;refine⟨[_,_],[],[],rfl,rfl,trivial,rfl,⟨?_,?_,trivial⟩,?_⟩
   ·exact .inr ⟨_,rfl,lm⟩
   ·exact rv
   ·exact mm
  ·exact absurd (oF h) om
 rw [if_neg hn] at hQ;have VN:(jR l []).2=uM l [] :=FY l [] [] List.Pairwise.nil (fun nm=>by simp [bE]);have yB:=FZ l [] List.Pairwise.nil;have SJ:=xy l [];generalize hv:jR l [] =v at *;obtain⟨vl,ve⟩:=v;dsimp only at hQ yB VN;subst VN;have ct:=NA (G:=G) l 0 (by unfold bm;omega) hl (fun a ha=>(eP a ha).2.1);have co:=DY (G:=G) ⟨l,0⟩ dm;unfold eo at co;dsimp only at co;generalize hK:uM l [] =e at *;refine dK seat Tryz.func45 57 ?_;refine aa ?_;refine ad rfl ?_ ?_ <;> intro h
 ·exact absurd (ot h) om
 refine aa ?_;refine av (Nat×List (List UInt8)) (fun x=> [(19, .int .i64 x.1),(18, .int .i64 l.length),(17, .sl l.length (l.map aV)),(4, .mp 1),(2, .ptr 0 2 0 0 []),(0, .sl l.length (l.map aV))]) (fun x=> [(0,⟨33,2,false,0,[.st [.nils, .int .u64 0]]⟩),(1,⟨132,0,false,0,[Bk x.2]⟩)]) 2 (fun x=>x.1≤l.length∧x.2.length≤x.1∧uM (l.drop x.1) x.2=e) (fun x=>l.length - x.1) (0,[]) ⟨a₇ _,a₇ _,by rw [b₄];exact hK⟩ (by dsimp only;exact(vm [(0,_),(1,_)] [])) ?_;rintro⟨k,ks⟩ ⟨hk,Er,hR⟩;unfold Bk;try dsimp only
 dsimp only at hk Er hR;refine aa ?_;refine ad rfl ?_ ?_ <;> intro h
 ·have aC:k < l.length:=by have:=ot h;omega
  have aH:=fN aC;have ng:=eP _ (b₅ aC);have c1:=va (G:=G) l[k].name (by have:=ng.1;omega);rw [a₃ aC,uM] at hR;generalize l[k] =a at *;obtain⟨nm,bal,seq⟩:=a;replace aH:bI (l.map aV) l.length (k:Int)=some (.st [.str nm, .int .u64 bal, .int .u64 seq]):=aH;have aH:=aj.mk aH;dsimp only at hR c1;by_cases oH:eD nm=false
  ·rw [oH] at c1;rw [if_pos oH] at hR;subst hR;rw [if_pos om] at hQ;simp only [lg0,a₁,eh.mk.injEq] at hQ;obtain⟨⟨rfl,rfl⟩,rfl⟩:=hQ;refine aa ?_;refine dZ (c1) ?_;refine au ?_;refine⟨[_,_],[],[],rfl,rfl,trivial,rfl,⟨?_,?_,trivial⟩,?_⟩
   ·exact .inr ⟨_,rfl,lm⟩
   ·exact rv
   ·exact mm
  rw [if_neg oH] at hR;have oH:eD nm=true:=by simpa using oH
  rw [oH] at c1;have hz:=bH.mk (show(a₀ ks.length (MV.st [])).length=(ks.map MV.str).length by simp);by_cases hm:nm∈ks
  ·rw [if_pos hm] at hR;subst hR;rw [if_pos om] at hQ;simp only [lg0,a₁,eh.mk.injEq] at hQ;obtain⟨⟨rfl,rfl⟩,rfl⟩:=hQ;obtain⟨j,hj,xX⟩:=tQ (i:=0) hm;have hj:=aj.mk hj;have hu:=aj.mk (show cE (a₀ ks.length (MV.st [])) (0 + j)=some (MV.st []) by rw [bZ,b₈];simp [xX]);refine aa ?_;refine dZ (c1) ?_;refine au ?_;refine⟨[_,_],[],[],rfl,rfl,trivial,rfl,⟨?_,?_,trivial⟩,?_⟩
   ·exact .inr ⟨_,rfl,lm⟩
   ·exact rv
   ·exact mm
  ·rw [if_neg hm] at hR;have hj:=aj.mk (xx (i:=0) hm);have hv:=aX.mk (show [MV.mpv (ks.map MV.str ++ [.str nm]) (a₀ ks.length (MV.st []) ++ [.st []])] = [MV.mpv ((ks ++ [nm]).map MV.str) (a₀ (ks ++ [nm]).length (.st []))] by rw [c₄,a₄,a₈,d₄];rfl);refine aa ?_;refine dZ (c1) ?_;exact⟨(k + 1,ks ++ [nm]),⟨dm,by simp;omega,hR⟩,dm,(by dsimp only;exact(vm [(0,_),(1,_)] []))⟩
 ·have aC:k=l.length:=by have:=oF h;omega
  subst aC;rw [a₆,uM] at hR;subst hR;rw [if_neg sm] at hQ;obtain⟨tX,jc⟩:=yB rfl;rw [List.nil_append] at jc;have hd:=(SJ rfl).1;have cs:=Ug (G:=G) hS l vl hl hd tX jc;rw [← zI jc.symm] at hQ;have SQ:=jc.length_eq;unfold dE at co ct cs;generalize totS l 0=p at *;obtain⟨tot,ok⟩:=p;dsimp only at ct hQ;refine aa ?_;refine yc (co) [] ?_;refine aa ?_;refine yc (ct) [(0,5)] ?_;refine aa ?_;cases ok with
  | false=>
   rw [if_pos rfl] at hQ;simp only [lg0,a₁,eh.mk.injEq] at hQ;obtain⟨⟨rfl,rfl⟩,rfl⟩:=hQ;refine aa ?_;refine au ?_;refine⟨[_,_],[],[],rfl,rfl,trivial,rfl,⟨?_,?_,trivial⟩,?_⟩
   ·exact .inr ⟨_,rfl,lm⟩
   ·exact rv
   ·exact mm
  | true=>
   rw [if_neg sm] at hQ;simp only [a₁,eh.mk.injEq] at hQ;obtain⟨⟨rfl,rfl⟩,rfl⟩:=hQ;refine aa ?_;refine yc (cs) [(0,5)] ?_;refine aa ?_;refine au ?_;rw [← SQ];refine⟨[_,_],[],[(5,vl.length)],rfl,rfl,?_,rfl,⟨?_,?_,trivial⟩,?_⟩
   ·exact⟨by show vl.length≤(vl.map aV).length;simp,trivial⟩
   ·exact .inr ⟨_,rfl,lm⟩
   ·exact rv
   ·exact mm
end
section
open Go.RowKit Go.Lib
variable {G:GS}
attribute [local irreducible] ak aB aD aJ aQ vC aY aw
theorem F0 (l:List bd) (a:bd) (hl:l.length≤100000):aT Tryz.prog G 139 [.ms 0 3 0 l.length, .int .i64 l.length, .ms 1 3 0 1] [(0,dE l),(1,dE [a])] 2 (.ms 2 3 0 (l.length + 1)) [(2,dE (l ++ [a]))] 3:=by
 have hb:=aj.mk (gH (κ:= .i64) (b₁ l.length));unfold dE;refine dK seat Tryz.func139 95 ?_;refine aa ?_;refine ad rfl ?_ ?_ <;> intro h
 ·refine aa ?_;refine aO rfl rfl (by intro R hR;refine da hR ?_;(refine c₇ (b₁ _) ?_;refine⟨_,rfl,?_⟩;refine c₇ ⟨sm,ai (by kernel_rfl) pf⟩ ?_;refine⟨(l ++ [a]).map aV,sv (by rw [c₄];rfl),l.length + 1,sv pf,?_⟩);exact hR) rfl ?_;refine aa ?_;exact eb [_] [(2,19)] []
 ·rw [beq_self_eq_true] at h;cases h
theorem NB (l:List bd) (a:bd) (i:Nat) (hi:i≤l.length) (hl:l.length≤100000):aT Tryz.prog G 139 [.ms 0 3 0 l.length, .int .i64 i, .ms 1 3 0 1] [(0,dE l),(1,dE [a])] 2 (.ms 2 3 0 (l.length + 1)) [(2,dE (l.take i ++ a :: l.drop i))] 3:=by
 by_cases h:i < l.length
 ·exact JT l a i h hl
 ·have e:i=l.length:=om;subst e;rw [e₅,a₆];exact F0 l a hl
end
section
variable {G:GS}
attribute [local irreducible] ak aB aD aJ aQ vC aY aw
theorem NC (l:eh) (price:Nat) (t:jX) (size:Nat) (hl:fG l) (hs:eN l.acs) (ht:jz t) (hp:bm price) (hz:size≤1000000000):aE Tryz.prog G 87 [eo l, .int .u64 price,pR t, .int .i64 size] (.int .i64 (gL l price t size)):=by
 have cc:=HM (G:=G) t ht;have cf:=Q6 (G:=G) l t (by have:=hl.1;omega) hs ht;have c1:=DZ (G:=G) l t.sender (by have:=hl.1;omega) hs;have BF:(bE l.acs t.sender).2=true→(js l t (fS t).1).acs.length=l.acs.length + (iX l.acs t.trs []).length:=Nu hs;have xN:=xw l.acs t.trs [];have lT:=fE (nm:=t.sender) hs;have b0n:=mO t.sender l.acs;generalize hr:gL l price t size=R;unfold gL at hr;generalize js l t (fS t).1=D at *;generalize fS t=cst at *;obtain⟨cv,cb⟩:=cst;obtain⟨acs,col⟩:=l;obtain⟨snd,seq,gas,fee,memo,trs⟩:=t;obtain⟨h1,h2,h3,h4,h5,h6,h7⟩:=ht;obtain⟨yz,nd,xL⟩:=hl;obtain⟨UM,UA⟩:=D;dsimp only at h1 h2 h3 h4 h5 h6 h7 yz nd xL hr cc cf c1 BF lT hs b0n;dsimp only [e₈] at xN;have cu:=QX (G:=G) (size:Int) (trs.length:Int) om om;have cn:=QW (G:=G) gas price h3 hp;have hul:n9 (size:Int) (trs.length:Int) < 18446744073709551616:=by unfold n9 limS;omega
 generalize n9 (size:Int) (trs.length:Int)=us at *;generalize lG gas price=mu at *;obtain⟨mv,mb⟩:=mu;generalize (iX acs trs []).length=fr at *;generalize posA snd acs=pp at *;generalize bE acs snd=g at *;obtain⟨⟨gn,gb,gs⟩,XG⟩:=g;dsimp only at c1 cn hr BF lT;unfold pR eo at *;dsimp only at *;cases XG with
 | false=>
  rw [if_pos rfl] at hr;refine bA seat Tryz.func87 83 ?_;refine aa ?_;refine dZ (c1) ?_;refine au ?_;refine congrArg (MV.int .i64) ?_;(repeat' split at hr) <;> omega
 | true=>
  rw [if_neg sm] at hr;have BF:=BF rfl;have aH:acs[pp]? =some ⟨gn,gb,gs⟩:=by
   rcases lT with ⟨_,h,_⟩ | ⟨h,_⟩
   ·exact h
   ·cases h
  have Em:pp < acs.length:=(a₂.1 aH).1;have aH:bI (acs.map aV) acs.length (pp:Int)=some (.st [.str gn, .int .u64 gb, .int .u64 gs]):=by
   have h:=fN Em;rw [(a₂.1 aH).2] at h;exact h
  have aH:=aj.mk aH;clear lT;refine bA seat Tryz.func87 83 ?_;refine aa ?_;refine dZ (c1) ?_;refine ad rfl ?_ ?_ <;> intro h
  ·have k0: ¬ (gs:Int)=(seq:Int):=by simpa using h
   have k1:gs≠seq:=om;refine aa ?_;refine au ?_;refine congrArg (MV.int .i64) ?_;(repeat' split at hr) <;> omega
  have k0:(gs:Int)=(seq:Int):=by simpa using h
  have k1:gs=seq:=om;refine aa ?_;refine ad rfl ?_ ?_ <;> intro h
  ·have k2:(gs:Int)=18446744073709551615:=by simpa using h
   refine aa ?_;refine au ?_;refine congrArg (MV.int .i64) ?_;(repeat' split at hr) <;> omega
  have k2: ¬ (gs:Int)=18446744073709551615:=by simpa using h
  refine aa ?_;refine al [ae 0,ae 1,ae 2,ae 3,ae 4,ae 5,dF 6,ae 7,ae 8] ?_;refine aa ?_;refine di (cu) ?_;refine ad rfl ?_ ?_ <;> intro h
  ·have k3:=ot h;refine aa ?_;refine au ?_;refine congrArg (MV.int .i64) ?_;(repeat' split at hr) <;> omega
  have k3:=oF h;refine aa ?_;refine dZ (cn) ?_;cases mb with
  | false=>
   rw [if_neg om,if_neg om,if_neg om,if_pos rfl] at hr;refine aa ?_;refine au ?_;refine congrArg (MV.int .i64) ?_;(repeat' split at hr) <;> omega
  | true=>
   rw [if_neg om,if_neg om,if_neg om,if_neg sm] at hr;refine aa ?_;refine ad rfl ?_ ?_ <;> intro h
   ·have k4:=ot h;rw [if_pos om] at hr;refine aa ?_;refine au ?_;refine congrArg (MV.int .i64) ?_;(repeat' split at hr) <;> omega
   have k4:=oF h;rw [if_neg om] at hr;refine aa ?_;refine dZ (cc) ?_;cases cb with
   | false=>
    rw [if_pos rfl] at hr;refine aa ?_;refine au ?_;refine congrArg (MV.int .i64) ?_;(repeat' split at hr) <;> omega
   | true=>
    rw [if_neg sm] at hr;refine aa ?_;refine ad rfl ?_ ?_ <;> intro h
    ·have k5:=ot h;refine aa ?_;refine au ?_;refine congrArg (MV.int .i64) ?_;(repeat' split at hr) <;> omega
    have k5:=oF h;refine aa ?_;refine al [ae 0,ae 1,ae 2,ae 3,ae 4,dF 5,ae 6,ae 7,ae 8] ?_;refine aa ?_;refine di (cf) ?_;refine ad rfl ?_ ?_ <;> intro h
    ·have k6:=ot h;refine aa ?_;refine au ?_;refine congrArg (MV.int .i64) ?_;(repeat' split at hr) <;> omega
    have k6:=oF h;refine aa ?_;refine au ?_;refine congrArg (MV.int .i64) ?_;(repeat' split at hr) <;> omega
theorem Bl {l:List bd} {k:Nat} {nm:List UInt8} {b s:Nat} (h:l[k]? =some ⟨nm,b,s⟩):cE (l.map aV) (0 + k)=some (.st [.str nm, .int .u64 b, .int .u64 s]):=by rw [bZ,Nat.zero_add,List.getElem?_map,h];rfl
theorem Bm (l:List bd) (k:Nat) (nm:List UInt8) (b s:Nat):setL (l.map aV) (0 + k) (.st [.str nm, .int .u64 b, .int .u64 s])=(l.set k ⟨nm,b,s⟩).map aV:=by rw [setL_eq,Nat.zero_add,List.map_set];rfl
theorem xD {acs:List bd} {a:bd} {nm:List UInt8} (hs:eN acs) (h:(bE acs nm)=(a,true)):a.name=nm∧acs[posA nm acs]? =some a:=by
 rcases fE (nm:=nm) hs with ⟨_,h2,h3⟩ | ⟨h1,_⟩
 ·rw [h] at h2 h3;exact⟨h3,h2⟩
 ·rw [h] at h1;cases h1
theorem Q8 {z:List bd} {x:mF} {b:bd} (hs:eN z) (h:bE z x.to_=(b,true)):ik z x=z.set (posA x.to_ z) ⟨b.name,(b.bal + x.amt) % 18446744073709551616,b.seq⟩:=by
 obtain⟨h1,_⟩:=xD hs h;have hp:mK x z=b:=by unfold mK;rw [h];rfl
 unfold ik;rw [hp,oA hs (by dsimp only;rw [h1,h])];dsimp only;rw [h1]
theorem Uh {z:List bd} {x:mF} (hs:eN z) (h:(bE z x.to_).2=false):ik z x=z.take (posA x.to_ z) ++ ⟨x.to_,(0 + x.amt) % 18446744073709551616,0⟩ :: z.drop (posA x.to_ z):=by
 have hp:mK x z=⟨x.to_,0,0⟩:=by unfold mK;rw [h];rfl
 unfold ik;rw [hp,ss hs (by exact h)]
theorem Q9 (z:List bd) (a:bd) {p:Nat} (hp:p≤z.length):(z.take p ++ a :: z.drop p)[p]? =some a:=by
 have h:(z.take p).length=p:=by simp [d₁ hp]
 rw [c₈ om,h,Nat.sub_self];rfl
theorem Rf (z:List bd) (a b:bd) {p:Nat} (hp:p≤z.length):(z.take p ++ a :: z.drop p).set p b=z.take p ++ b :: z.drop p:=by
 have h:(z.take p).length=p:=by simp [d₁ hp]
 rw [List.set_append_right _ _ om,h,Nat.sub_self];rfl
theorem Ri (l:eh) (t:jX) (hl:fG l) (hs:eN l.acs) (ht:jz t) (RI:(bE l.acs t.sender).2=true):aT Tryz.prog G 89 [.st [.ms 0 3 0 l.acs.length, .int .u64 l.col],pR t] [(0,dE l.acs)] 1 (eo (js l t (fS t).1)) [] 1:=by
 have cc:=HM (G:=G) t ht;have hcu:=tA t;obtain⟨acs,col⟩:=l;obtain⟨snd,seq,gas,fee,memo,trs⟩:=t;obtain⟨h1,h2,h3,h4,h5,h6,h7⟩:=ht;obtain⟨yz,nd,xL⟩:=hl;dsimp only at h1 h2 h3 h4 h5 h6 h7 yz nd xL hs RI ⊢;have cp:=fun (z:List bd) nm (hz:eN z) (yE:z.length≤100000)=>Nt (G:=G) z col nm yE hz
 generalize fS ⟨snd,seq,gas,fee,memo,trs⟩=cst at *;obtain⟨cv,cb⟩:=cst;dsimp only at cc hcu ⊢;obtain⟨⟨⟨gn,gb,gs⟩,XG⟩,hg⟩: ∃g,bE acs snd=g:=⟨_,rfl⟩
 rw [hg] at RI;dsimp only at RI;subst RI;obtain⟨SJ,aH⟩:=xD hs hg;have eP:SmAc ⟨gn,gb,gs⟩:=by have:=pa (acs:=acs) (name:=snd) xL;rwa [hg] at this
 obtain⟨q1,q2,q3⟩:=eP;dsimp only at SJ q1 q2 q3;unfold bm at q2 q3 hcu h4 nd;have Em:posA snd acs < acs.length:=(a₂.1 aH).1;have hdA:kx ⟨acs,col⟩ ⟨snd,seq,gas,fee,memo,trs⟩ cv=⟨gn,(gb + (18446744073709551616 - cv)) % 18446744073709551616,(gs + 1) % 18446744073709551616⟩:=by unfold kx;dsimp only;rw [hg]
 have SC:gq ⟨gn,(gb + (18446744073709551616 - cv)) % 18446744073709551616,(gs + 1) % 18446744073709551616⟩ acs=acs.set (posA snd acs) ⟨gn,(gb + (18446744073709551616 - cv)) % 18446744073709551616,(gs + 1) % 18446744073709551616⟩:=by
  rw [oA hs (by dsimp only;rw [SJ,hg])];dsimp only;rw [SJ]
 have YA: ∀a∈gq ⟨gn,(gb + (18446744073709551616 - cv)) % 18446744073709551616,(gs + 1) % 18446744073709551616⟩ acs,SmAc a:=fun a h=>(lH h).elim (fun e=>e▸⟨q1,mod_u64,mod_u64⟩) (xL a)
 have UN:eN (gq ⟨gn,(gb + (18446744073709551616 - cv)) % 18446744073709551616,(gs + 1) % 18446744073709551616⟩ acs):=su hs;have e1:=aX.mk (show IntKind.u64.wrap ((gb:Int) - (cv:Int))=(((gb + (18446744073709551616 - cv)) % 18446744073709551616:Nat):Int) by rw [wu64];omega);have e2:=aX.mk (show IntKind.u64.wrap ((gs:Int) + 1)=(((gs + 1) % 18446744073709551616:Nat):Int) by rw [wu64];omega);have e3:=aX.mk (show IntKind.u64.wrap ((col:Int) + (fee:Int))=(((col + fee) % 18446744073709551616:Nat):Int) by rw [wu64];omega);unfold js;rw [hdA];dsimp only;generalize (gb + (18446744073709551616 - cv)) % 18446744073709551616=nb at *;generalize (gs + 1) % 18446744073709551616=ns at *;generalize (col + fee) % 18446744073709551616=nc at *;have r1:=aj.mk (Bl aH);have t1:=Bm acs (posA snd acs) gn nb gs;have r2:=Bl (show(acs.set (posA snd acs) ⟨gn,nb,gs⟩)[posA snd acs]? =some ⟨gn,nb,gs⟩ by rw [List.getElem?_set_self Em]);have t2:=Bm (acs.set (posA snd acs) ⟨gn,nb,gs⟩) (posA snd acs) gn nb ns;rw [List.set_set,← SC,← t1] at t2;rw [← t1] at r2;have r2:=aj.mk r2;have YJ:(gq ⟨gn,nb,ns⟩ acs).length=acs.length:=by rw [SC,f₁]
 have c1:=cp acs snd hs om;rw [hg] at c1;generalize hR:trs.foldl ik (gq ⟨gn,nb,ns⟩ acs)=R;generalize gq ⟨gn,nb,ns⟩ acs=z0 at *;generalize posA snd acs=pp0 at *;clear SC hdA aH hg t1;unfold dE at cp c1 ⊢;unfold eo pR at *;dsimp only at *;refine dK seat Tryz.func89 88 ?_;refine aa ?_;refine dZ (cc) ?_;refine yc (c1) [(0,0)] ?_;refine aa ?_;refine av (Nat×List bd×List MV×Nat×Bool) (fun x=> [(47, .int .i64 x.1),(46, .int .i64 trs.length),(45, .sl trs.length (trs.map mU)),(4, .ptr 3 2 0 0 []),(3, .ptr 2 6 0 0 []),(2, .ptr 1 2 0 0 [])]) (fun x=>match x.2.2.2.2 with
  | true=> [(1,⟨33,2,false,0,[.st [.ms 4 3 0 x.2.2.2.1, .int .u64 col]]⟩),(4,⟨91,3,true,0,x.2.2.1⟩),(2,⟨98,6,false,0,[.st [.str snd, .int .u64 seq, .int .u64 gas, .int .u64 fee, .str memo, .sl trs.length (trs.map mU)]]⟩),(3,⟨33,2,false,0,[.st [.nils, .int .u64 0]]⟩)]
  | false=> [(1,⟨33,2,false,0,[.st [.ms 0 3 0 x.2.2.2.1, .int .u64 col]]⟩),(0,⟨91,3,true,0,x.2.2.1⟩),(2,⟨98,6,false,0,[.st [.str snd, .int .u64 seq, .int .u64 gas, .int .u64 fee, .str memo, .sl trs.length (trs.map mU)]]⟩),(3,⟨33,2,false,0,[.st [.nils, .int .u64 0]]⟩)]) 5 (fun x=>x.1≤trs.length∧x.2.1.length≤acs.length + x.1∧eN x.2.1∧(∀a∈x.2.1,SmAc a)∧(trs.drop x.1).foldl ik x.2.1=R∧x.2.2.1=x.2.1.map aV∧x.2.2.2.1=x.2.1.length) (fun x=>trs.length - x.1) (0,z0,_,acs.length,false) ⟨a₇ _,dm,UN,YA,by dsimp only;rw [b₄];exact hR,t2,YJ.symm⟩ (by dsimp only;exact(vm [(1,_),(2,_),(3,_)] [])) ?_
 clear hR t2 r1 r2 c1 YJ UN YA;rintro⟨k,z,Z,m,f⟩ ⟨hk,hzn,hz,Br,BG,hZ,hm⟩;dsimp only at hk hzn hz Br BG hZ hm;subst hZ;subst hm;try dsimp only
 refine aa ?_;refine ad rfl ?_ ?_ <;> intro h
 ·have aC:k < trs.length:=by have:=ot h;omega
  have aH:=mH aC;have hx:=h7 _ (b₅ aC);have pG:=AY hx Br;rw [a₃ aC,e₇] at BG;generalize trs[k] =x at *;obtain⟨to_,amt⟩:=x;obtain⟨BB,yF⟩:=hx;dsimp only at BB yF;unfold bm at yF;replace aH:bI (trs.map mU) trs.length (k:Int)=some (.st [.str to_, .int .u64 amt]):=aH;have j0s:=aj.mk aH;clear aH;have cq:=cp z to_ hz om;obtain⟨⟨⟨bn,bb,bs⟩,bok⟩,hg⟩: ∃g,bE z to_=g:=⟨_,rfl⟩
  have RM:=pa (name:=to_) Br;rw [hg] at cq RM;obtain⟨c0x,Yq,XJ⟩:=RM;dsimp only at cq c0x Yq XJ;unfold bm at Yq XJ;cases bok with
  | true=>
   obtain⟨Yl,aH⟩:=xD hz hg;have Ka:=Q8 (x:=⟨to_,amt⟩) hz hg;dsimp only at Yl aH Ka;have N0:eN (ik z ⟨to_,amt⟩):=sw hz;have Em:posA to_ z < z.length:=(a₂.1 aH).1;have yE:(ik z ⟨to_,amt⟩).length=z.length:=by rw [Ka,f₁]
   have r1:=aj.mk (Bl aH);have s1:=Bm z (posA to_ z) bn ((bb + amt) % 18446744073709551616) bs;rw [← Ka] at s1;have w1:=aX.mk (show IntKind.u64.wrap ((bb:Int) + (amt:Int))=(((bb + amt) % 18446744073709551616:Nat):Int) by rw [wu64];omega);generalize (bb + amt) % 18446744073709551616=sm at *;generalize ik z ⟨to_,amt⟩=z' at *;generalize posA to_ z=pp at *;clear Ka hg;cases f with
   | true=>
    dsimp only;refine aa ?_;refine yc (cq) [(0,4)] ?_;refine aa ?_;refine al [ae 0,ae 1,ae 2,ae 3,ae 4,ae 5,ae 6,ae 7,ae 8,ae 9,ae 10,ae 11] ?_;refine aa ?_;exact⟨(k + 1,z',_,z.length,true),⟨dm,dm,N0,pG.1,BG,s1,yE.symm⟩,dm,(by dsimp only;exact(vm [(1,_),(4,_),(2,_),(3,_)] []))⟩
   | false=>
    dsimp only;refine aa ?_;refine yc (cq) [(0,0)] ?_;refine aa ?_;refine al [ae 0,ae 1,ae 2,ae 3,ae 4,ae 5,ae 6,ae 7,ae 8,ae 9,ae 10,ae 11] ?_;refine aa ?_;exact⟨(k + 1,z',_,z.length,false),⟨dm,dm,N0,pG.1,BG,s1,yE.symm⟩,dm,(by dsimp only;exact(vm [(1,_),(2,_),(3,_)] []))⟩
  | false=>
   replace hg:(bE z to_).2=false:=by rw [hg]
   have Ka:=Uh (x:=⟨to_,amt⟩) hz hg;dsimp only at Ka;have N0:eN (ik z ⟨to_,amt⟩):=sw hz;have Em:posA to_ z≤z.length:=mO _ _;have yE:(ik z ⟨to_,amt⟩).length=z.length + 1:=by rw [Ka];simp;omega
   have r1:=aj.mk (Bl (Q9 z ⟨to_,0,0⟩ Em));have s1:=Bm (z.take (posA to_ z) ++ ⟨to_,0,0⟩ :: z.drop (posA to_ z)) (posA to_ z) to_ ((0 + amt) % 18446744073709551616) 0;rw [Rf _ _ _ Em,← Ka] at s1;have w1:=aX.mk (show IntKind.u64.wrap ((0:Nat) + (amt:Int))=(((0 + amt) % 18446744073709551616:Nat):Int) by rw [wu64];omega);have ci:=NB (G:=G) z ⟨to_,0,0⟩ (posA to_ z) Em om;unfold dE at ci;generalize (0 + amt) % 18446744073709551616=sm at *;generalize z.take (posA to_ z) ++ ⟨to_,0,0⟩ :: z.drop (posA to_ z)=zi at *;generalize ik z ⟨to_,amt⟩=z' at *;generalize posA to_ z=pp at *;clear Ka hg;cases f with
   | true=>
    dsimp only;refine aa ?_;refine yc (cq) [(0,4)] ?_;refine aa ?_;refine bF rfl aA rfl (ci) [(0,4),(1,_)] [] ⟨rfl,trivial,rfl,lm,mm⟩ rfl rfl ?_;refine aa ?_;refine al [ae 0,ae 1,ae 2,ae 3,ae 4,ae 5,ae 6,ae 7,ae 8,ae 9,ae 10,ae 11] ?_;refine aa ?_;exact⟨(k + 1,z',_,z.length + 1,true),⟨dm,dm,N0,pG.1,BG,s1,yE.symm⟩,dm,(by dsimp only;exact(vm [(1,_),(4,_),(2,_),(3,_)] []))⟩
   | false=>
    dsimp only;refine aa ?_;refine yc (cq) [(0,0)] ?_;refine aa ?_;refine bF rfl aA rfl (ci) [(0,0),(1,_)] [] ⟨rfl,trivial,rfl,lm,mm⟩ rfl rfl ?_;refine aa ?_;refine al [ae 0,ae 1,ae 2,ae 3,ae 4,ae 5,ae 6,ae 7,ae 8,ae 9,ae 10,ae 11] ?_;refine aa ?_;exact⟨(k + 1,z',_,z.length + 1,true),⟨dm,dm,N0,pG.1,BG,s1,yE.symm⟩,dm,(by dsimp only;exact(vm [(1,_),(4,_),(2,_),(3,_)] []))⟩
 ·have aC:k=trs.length:=by have:=oF h;omega
  subst aC;rw [a₆,List.foldl_nil] at BG;subst BG;cases f with
  | true=>
   dsimp only;refine aa ?_;refine au ?_;refine⟨[_],[],[(4,z.length)],rfl,rfl,?_,rfl,⟨?_,trivial⟩,?_⟩
   ·exact⟨by show z.length≤(z.map aV).length;simp,trivial⟩
   ·exact .inr ⟨_,rfl,lm⟩
   ·exact mm
  | false=>
   dsimp only;refine aa ?_;refine au ?_;refine⟨[_],[],[(0,z.length)],rfl,rfl,?_,rfl,⟨?_,trivial⟩,?_⟩
   ·exact⟨by show z.length≤(z.map aV).length;simp,trivial⟩
   ·exact .inr ⟨_,rfl,lm⟩
   ·exact mm
end
section
attribute [local irreducible] ak aB aD aJ aQ vC aY aw
theorem Ed {l:eh} {p:Nat} {t:jX} {n:Nat} (h:gL l p t n=0):(bE l.acs t.sender).2=true:=by
 unfold gL at h;cases hb:(bE l.acs t.sender).2 with
 | true=>rfl
 | false=>rw [hb,if_pos rfl] at h;exact absurd h (by decide)
theorem Ws (l:eh) (price:Nat) (raw:List UInt8) (hl:fG l) (hp:bm price) (qu:raw.length≤140737488355328):aT Tryz.prog GU 51 [eo l, .int .u64 price, .sl raw.length (u8s raw)] [] 0 (.tup [eo (qx l price raw).1,fc (qx l price raw).2]) [] 0:=by
 have cv:=JK (G:=GU) l hl;have cd:=JE raw qu;have eP:=jS (raw:=raw);have cp:=QV (G:=GU) (aW raw).1.fee (aW raw).1.gas eP.2.2.2.1 eP.2.2.1;have co:=DY (G:=GU) l (by have:=hl.1;omega);have cf:=fun (hv:gC l=0) (he:(aW raw).2=0)=>NC (G:=GU) l price _ raw.length hl (zH hv).1 eP hp (by have:=Hr he;omega)
 have Xw:=fun (hv:gC l=0) (hf:gL l price (aW raw).1 raw.length=0)=>Ri (G:=GU) l _ hl (zH hv).1 eP (Ed hf)
 generalize hr:qx l price raw=R;obtain⟨⟨Racs,Rcol⟩,⟨Rcode,Rsnd,Rseq,Rgas,Rprio⟩⟩:=R;unfold qx at hr;generalize aW raw=d at *;obtain⟨t,e⟩:=d;dsimp only at *;generalize gC l=vl at *;generalize fS t=cst at *;obtain⟨Ux,b0o⟩:=cst;dsimp only at *;generalize js l t Ux=D at *;generalize gL l price t raw.length=fe at *;obtain⟨snd,seq,gas,fee,memo,trs⟩:=t;dsimp only at *;generalize rK fee gas=pr at *;obtain⟨acs,col⟩:=l;obtain⟨UM,UA⟩:=D;obtain⟨h1,h2,h3,h4,h5,h6,h7⟩:=eP;obtain⟨yz,nd,xL⟩:=hl;dsimp only at h1 h2 h3 h4 h5 h6 h7 yz nd xL;unfold dE at *;unfold eo pR at *;unfold fc;dsimp only at *;by_cases hv:vl=0
 ·subst hv;replace cf:=cf rfl;rw [if_neg sm] at hr;by_cases he:e=0
  ·subst he;replace cf:=cf rfl;rw [if_neg sm] at hr;have xY:=hr;simp only [a₁,ga.mk.injEq] at xY;obtain⟨hD,rfl,rfl,rfl,rfl,rfl⟩:=xY;clear hr;refine dK seat Tryz.func51 55 ?_;refine aa ?_;refine yc (co) [] ?_;refine aa ?_;refine dZ (cv) ?_;refine jn (cd) ?_;refine al [ae 0,ae 1,ae 2,ae 3,ae 4,dF 5,ae 6,ae 7,ae 8,ae 9,ae 10,ae 11,ae 12,ae 13,ae 14,ae 15,dF 16,ae 17,ae 18,ae 19] ?_;refine aa ?_;refine di (cf) ?_;refine di (cp) ?_;refine ad rfl ?_ ?_ <;> intro h
   ·have Ve:fe=0:=by
     have:(fe:Int)=0:=by simpa using h
     omega
    subst Ve;rw [if_neg sm] at hD;simp only [eh.mk.injEq] at hD;obtain⟨rfl,rfl⟩:=hD;have Xw:=Xw rfl rfl;refine aa ?_;refine yc (Xw) [(0,4)] ?_;refine aa ?_;refine al [ae 0,ae 1,ae 2,ae 3] ?_;refine aa ?_;refine au ?_;exact en [_,_]
   ·have Ve:fe≠0:=fun e=>by subst e;simp at h
    rw [if_pos Ve] at hD;simp only [eh.mk.injEq] at hD;obtain⟨rfl,rfl⟩:=hD;refine aa ?_;refine al [ae 0,ae 1,ae 2,ae 3] ?_;refine aa ?_;refine au ?_;refine⟨[_,_],[],[(4,acs.length)],rfl,rfl,?_,rfl,⟨?_,?_,trivial⟩,?_⟩
    ·exact⟨by show acs.length≤(acs.map aV).length;simp,trivial⟩
    ·exact .inr ⟨_,rfl,lm⟩
    ·exact rv
    ·exact mm
  ·rw [if_pos he] at hr;simp only [a₁,eh.mk.injEq,ga.mk.injEq] at hr;obtain⟨⟨rfl,rfl⟩,rfl,rfl,rfl,rfl,rfl⟩:=hr;refine dK seat Tryz.func51 55 ?_;refine aa ?_;refine yc (co) [] ?_;refine aa ?_;refine dZ (cv) ?_;refine jn (cd) ?_;refine ad rfl ?_ ?_ <;> intro h
   ·refine aa ?_;refine au ?_;refine⟨[_,_],[],[(4,acs.length)],rfl,rfl,?_,rfl,⟨?_,?_,trivial⟩,?_⟩
    ·exact⟨by show acs.length≤(acs.map aV).length;simp,trivial⟩
    ·exact .inr ⟨_,rfl,lm⟩
    ·exact rv
    ·exact mm
   ·exact absurd (by simpa using h) he
 ·rw [if_pos hv] at hr;simp only [a₁,eh.mk.injEq,ga.mk.injEq] at hr;obtain⟨⟨rfl,rfl⟩,rfl,rfl,rfl,rfl,rfl⟩:=hr;refine dK seat Tryz.func51 55 ?_;refine aa ?_;refine yc (co) [] ?_;refine aa ?_;refine dZ (cv) ?_;refine ad rfl ?_ ?_ <;> intro h
  ·refine aa ?_;refine au ?_;refine⟨[_,_],[],[(4,acs.length)],rfl,rfl,?_,rfl,⟨?_,?_,trivial⟩,?_⟩
   ·exact⟨by show acs.length≤(acs.map aV).length;simp,trivial⟩
   ·exact .inr ⟨_,rfl,lm⟩
   ·exact rv
   ·exact mm
  ·exact absurd (by simpa using h) hv
theorem Ui (l:eh) (p:Nat) (raws:List (List UInt8)) (hl:fG l) (hp:bm p) (hn:raws.length≤1000000) (hb: ∀b∈raws,b.length≤140737488355328):aT Tryz.prog GU 54 [eo l, .int .u64 p,ee raws] [] 0 (.tup [eo (jt p raws l []).1, .sl (jt p raws l []).2.length ((jt p raws l []).2.map fc)]) [] 0:=by
 generalize hr:jt p raws l [] =R;obtain⟨⟨Racs,Rcol⟩,Rout⟩:=R;have co:=tP (G:=GU) l (by have:=hl.1;omega);obtain⟨Og,NZ⟩:=l;unfold ee eo at *;dsimp only;refine dK seat Tryz.func54 36 ?_;refine aa ?_;refine jn (co) ?_;refine av (Nat×eh×List ga) (fun x=> [(17, .int .i64 x.1),(16, .int .i64 raws.length),(15, .sl raws.length (raws.map bo)),(8, .ms 2 5 0 x.2.2.length),(6, .ptr 1 2 0 0 []),(3, .ptr 0 2 0 0 []),(1, .int .u64 p)]) (fun x=> [(0,⟨33,2,false,0,[.st [.sl x.2.1.acs.length (x.2.1.acs.map aV), .int .u64 x.2.1.col]]⟩),(1,⟨33,2,false,0,[.st [.nils, .int .u64 0]]⟩),(2,⟨48,5,true,0,x.2.2.map fc⟩)]) 3 (fun x=>x.1≤raws.length∧x.2.2.length=x.1∧fG x.2.1∧jt p (raws.drop x.1) x.2.1 x.2.2=(⟨Racs,Rcol⟩,Rout)) (fun x=>raws.length - x.1) (0,⟨Og,NZ⟩,[]) ⟨a₇ _,rfl,hl,by dsimp only;rw [b₄];exact hr⟩ (by dsimp only;exact(vm [(0,_),(1,_)] [])) ?_;clear hr hl;rintro⟨k,⟨acs,col⟩,out⟩ ⟨hk,sH,Bv,hR⟩;try dsimp only
 dsimp only at hk sH hR;refine aa ?_;refine ad rfl ?_ ?_ <;> intro h
 ·have aC:k < raws.length:=by have:=ot h;omega
  have aH:=iC aC;have kS:=hb _ (b₅ aC);rw [a₃ aC,jt] at hR;generalize raws[k] =raw at *;replace aH:bI (raws.map bo) raws.length (k:Int)=some (.sl raw.length (u8s raw)):=aH;have aH:=aj.mk aH;have c1:=Ws ⟨acs,col⟩ p raw Bv hp kS;have jc:=kW (p:=p) (raw:=raw) Bv;generalize qx ⟨acs,col⟩ p raw=y at *;obtain⟨⟨mQ,qt⟩,⟨ec,R4,RC,RJ,RD⟩⟩:=y;unfold eo fc at c1;dsimp only at c1 hR jc;refine aa ?_;refine jn (c1) ?_;refine al [ae 0,ae 1,ae 2,ae 3,ae 4,ae 5,ae 6] ?_;refine aa ?_;refine bj rfl (by intro R hR;refine da hR ?_;(refine c₇ (b₁ _) ?_;refine⟨_,rfl,?_⟩;refine c₇ ⟨sm,ai (by kernel_rfl) pf⟩ ?_;refine⟨(out ++ [(⟨ec,R4,RC,RJ,RD⟩:ga)]).map fc,sv (by simp;rfl),out.length + 1,sv pf,?_⟩);exact hR) rfl ?_;refine aa ?_;exact⟨(k + 1,⟨mQ,qt⟩,out ++ [⟨ec,R4,RC,RJ,RD⟩]),⟨dm,by dsimp only;rw [a₄,a₈];omega,jc.1,hR⟩,dm,(by dsimp only;rw [a₄,a₈];exact(vm [(0,_),(1,_),(2,_)] []))⟩
 ·have aC:k=raws.length:=by have:=oF h;omega
  subst aC;rw [a₆,jt] at hR;simp only [a₁,eh.mk.injEq] at hR;obtain⟨⟨rfl,rfl⟩,rfl⟩:=hR;refine aa ?_;refine au ?_;refine⟨[_,_],[],[(2,out.length)],rfl,rfl,?_,rfl,⟨?_,?_,trivial⟩,?_⟩
  ·exact⟨by show out.length≤(out.map fc).length;simp,trivial⟩
  ·exact .inl ⟨rfl,rfl⟩
  ·exact .inr ⟨rfl,rfl,rfl,Nat.le_of_eq (b₈ _),bc fc out⟩
  ·exact mm
theorem NF (a:eM) (ha:fB a):aE Tryz.prog GU 50 [appM a] (appM a):=by
 have c1:=tP (G:=GU) a.com (by have:=ha.1.1;omega);have c2:=tP (G:=GU) a.chk (by have:=ha.2.1.1;omega);have c3:=tP (G:=GU) a.nxt (by have:=ha.2.2.1.1;omega);obtain⟨⟨a1,b1⟩,⟨a2,b2⟩,⟨a3,b3⟩,op,price⟩:=a;unfold appM eo at *;dsimp only at *;refine bA seat Tryz.func50 16 ?_;refine aa ?_;refine al [ae 0,ae 1,dF 2,ae 3,ae 4,dF 5,ae 6,ae 7,dF 8,ae 9,ae 10,ae 11,ae 12,ae 13,ae 14] ?_;refine aa ?_;refine tq (c1) ?_;refine tq (c2) ?_;refine tq (c3) ?_;refine au ?_;rfl
theorem JZ (a:eM) (ha:fB a):aT Tryz.prog GU 28 [appM a] [] 0 (.tup [appM (rM a).1, .int .i64 (rM a).2]) [] 0:=by
 have c1:=tP (G:=GU) a.nxt (by have:=ha.2.2.1.1;omega);unfold rM;obtain⟨⟨a1,b1⟩,⟨a2,b2⟩,⟨a3,b3⟩,op,price⟩:=a;dsimp only at *;have hA: ∀op:Bool,appM ⟨⟨a1,b1⟩,⟨a2,b2⟩,⟨a3,b3⟩,op,price⟩= .st [.st [.sl a1.length (a1.map aV), .int .u64 b1], .st [.sl a2.length (a2.map aV), .int .u64 b2], .st [.sl a3.length (a3.map aV), .int .u64 b3], .bool op, .int .u64 price] :=fun _=>rfl
 rw [hA];unfold eo at c1;dsimp only at c1;cases op with
 | false=>
  rw [if_pos rfl];refine dK seat Tryz.func28 17 ?_;refine aa ?_;refine au ?_;refine⟨[_,_],[],[],rfl,rfl,trivial,rfl,⟨?_,?_,trivial⟩,?_⟩
  ·exact ff
  ·exact rv
  ·exact mm
 | true=>
  rw [if_neg sm];refine dK seat Tryz.func28 17 ?_;refine aa ?_;refine al [ae 0,ae 1,dF 2,ae 3,ae 4,dF 5,ae 6,ae 7,ae 8,ae 9,ae 10] ?_;refine aa ?_;refine tq (c1) ?_;refine tq (c1) ?_;refine au ?_;refine⟨[_,_],[],[],rfl,rfl,trivial,rfl,⟨?_,?_,trivial⟩,?_⟩
  ·exact .inr ⟨_,rfl,⟨rel_lg,rel_lg,rel_lg0,⟨rfl,rfl⟩,⟨rfl,rfl⟩,trivial⟩⟩
  ·exact rv
  ·exact mm
theorem Uj (a:eM) (raws:List (List UInt8)) (ha:fB a) (hn:raws.length≤1000000) (hb: ∀b∈raws,b.length≤140737488355328):aT Tryz.prog GU 31 [appM a,ee raws] [] 0 (.tup [appM (iS a raws).1, .sl (iS a raws).2.1.length ((iS a raws).2.1.map fc), .int .i64 (iS a raws).2.2]) [] 0:=by
 have c0:=NF a ha;have c1:=Ui a.com a.price raws ha.1 ha.2.2.2 hn hb;unfold iS;obtain⟨⟨a1,b1⟩,⟨a2,b2⟩,⟨a3,b3⟩,op,price⟩:=a;dsimp only at *;generalize jt price raws ⟨a1,b1⟩ [] =y at *;obtain⟨⟨mQ,qt⟩,out⟩:=y;unfold ee at *;have hA: ∀op:Bool,appM ⟨⟨a1,b1⟩,⟨a2,b2⟩,⟨a3,b3⟩,op,price⟩= .st [.st [.sl a1.length (a1.map aV), .int .u64 b1], .st [.sl a2.length (a2.map aV), .int .u64 b2], .st [.sl a3.length (a3.map aV), .int .u64 b3], .bool op, .int .u64 price] :=fun _=>rfl
 rw [hA] at c0 ⊢;unfold eo at c1;dsimp only at c1;cases op with
 | true=>
  rw [if_pos rfl];refine dK seat Tryz.func31 33 ?_;refine aa ?_;refine au ?_;refine⟨[_,_,_],[],[],rfl,rfl,trivial,rfl,⟨?_,?_,?_,trivial⟩,?_⟩
  ·exact ff
  ·exact .inr ⟨rfl,rfl⟩
  ·exact rv
  ·exact mm
 | false=>
  rw [if_neg sm];by_cases hl:512 < raws.length
  ·rw [if_pos hl];refine dK seat Tryz.func31 33 ?_;refine aa ?_;(iterate 4 ((all_goals(refine aa ?_));(all_goals(first | ((first | refine ag rfl rfl ?_ rfl ?_ | refine ad rfl ?_ ?_);all_goals(intro h;(try simp only [pl] at h);(try (exfalso;omega)))) | skip))));all_goals(refine au ?_)
   refine⟨[_,_,_],[],[],rfl,rfl,trivial,rfl,⟨?_,?_,?_,trivial⟩,?_⟩
   ·exact ff
   ·exact .inr ⟨rfl,rfl⟩
   ·exact rv
   ·exact mm
  ·rw [if_neg hl];dsimp only
   show aT _ _ _ _ _ _ (.tup [.st [.st [.sl a1.length (a1.map aV), .int .u64 b1], .st [.sl a2.length (a2.map aV), .int .u64 b2], .st [.sl mQ.length (mQ.map aV), .int .u64 qt], .bool true, .int .u64 price],_,_]) _ _
   refine dK seat Tryz.func31 33 ?_;refine aa ?_;refine ad rfl ?_ ?_ <;> intro h
   ·exact absurd (ot h) om
   refine aa ?_;refine dZ (c0) ?_;refine jn (c1) ?_;refine au ?_;exact en [_,_,_]
theorem NG (hS:xC Tryz.prog 75 76) (l:List bd) (p:Nat) (hl:l.length≤100000) (eP: ∀a∈l,pB a) (hp:bm p):aT Tryz.prog GU 15 [.sl l.length (l.map aV), .int .u64 p] [] 0 (.tup [appM (bN l p).1, .int .i64 (bN l p).2]) [] 0:=by
 have c1:=Q7 (G:=GU) hS l hl eP;have RM:=w7 eP;have co:=tP (G:=GU) (kD l).1 (by have:=RM.1;omega);unfold bN;generalize kD l=y at *;obtain⟨⟨mQ,qt⟩,e⟩:=y;unfold eo at c1 co;dsimp only at *;by_cases he:e=0
 ·rw [if_neg (by simpa using he)]
  show aT _ _ _ _ _ _ (.tup [.st [.st [.sl mQ.length (mQ.map aV), .int .u64 qt], .st [.sl mQ.length (mQ.map aV), .int .u64 qt], .st [.sl 0 [], .int .u64 (0:Nat)], .bool false, .int .u64 p],_]) _ _
  refine dK seat Tryz.func15 22 ?_;refine aa ?_;refine jn (c1) ?_;refine ad rfl ?_ ?_ <;> intro h
  ·exact absurd he (fun he=>by subst he;simp at h)
  refine aa ?_;refine al [ae 0,ae 1,dF 2,ae 3,ae 4,ae 5,ae 6] ?_;refine aa ?_;refine tq (co) ?_;refine au ?_;refine⟨[_,_],[],[],rfl,rfl,trivial,rfl,⟨?_,?_,trivial⟩,?_⟩
  ·exact .inr ⟨_,rfl,⟨rel_lg,rel_lg,rel_lg0,⟨rfl,rfl⟩,⟨rfl,rfl⟩,trivial⟩⟩
  ·exact rv
  ·exact mm
 ·rw [if_pos he];dsimp only;refine dK seat Tryz.func15 22 ?_;refine aa ?_;refine jn (c1) ?_;refine ad rfl ?_ ?_ <;> intro h
  ·refine aa ?_;refine au ?_;refine⟨[_,_],[],[],rfl,rfl,trivial,rfl,⟨?_,?_,trivial⟩,?_⟩
   ·exact ff
   ·exact rv
   ·exact mm
  ·exfalso;have: ¬ (e:Int)≠0:=by simpa using h
   omega
end
section
open Go.RowKit Go.Lib Go.Shelf Go.Sort
theorem ZS:SWO (ltOf fun x y:bd=>kA x.name y.name) where
 irrefl x:=by rw [pq];exact less_irr _
 trans x y z h1 h2:=by rw [pq] at *;exact iW h1 h2
 ntrans x y z h1 h2:=by
  rw [pq] at *;cases h:Op.bytesLess x.name z.name with
  | false=>rfl
  | true=>
   exfalso;by_cases e:z.name=y.name
   ·rw [e,h1] at h;cases h
   ·have h3:=xv h2 (Ne.symm e);rw [iW h h3] at h1;cases h1
theorem Uk:xC Tryz.prog 75 76:=by
 intro g cap d w hH hg hd;have eg: ∀args w,(callFunc 76 args).run Tryz.prog w= .ok (.enter 76 args) w:=enters_of Tryz.func76 (by kernel_rfl) rfl
 exact AnyQ.slices_SortFunc Tryz.sortAcc 3 Tryz.isAgg91 Tryz.sizeOf91 jV (fun _=>rfl) (fun x v hv=>by simp [jV] at hv;rcases hv with rfl | rfl | rfl <;> rfl) (fun x y=>kA x.name y.name) ZS 76 #[] g 0 cap d w eg (fun _ _ _ _ x y=>Nv x y _) hH hg hd
theorem NH (l:List bd) (p:Nat) (hl:l.length≤100000) (eP: ∀a∈l,pB a) (hp:bm p):aT Tryz.prog GU 15 [.sl l.length (l.map aV), .int .u64 p] [] 0 (.tup [appM (bN l p).1, .int .i64 (bN l p).2]) [] 0:=NG Uk l p hl eP hp
end
section
attribute [local irreducible] ak aB aD aJ aQ vC aY aw
def iI (acs:List bd) (c:nf) (bl:List dM):eM×eR×Nat×Int:=
 if ky c≠0 then(app0,tip0,0,ky c) else if (bN acs c.price).2≠0 then(app0,tip0,0,(bN acs c.price).2) else
 ((repL c.nodes c.blkB bl 0 (bN acs c.price).1 (kz (bN acs c.price).1.com)).1,(repL c.nodes c.blkB bl 0 (bN acs c.price).1 (kz (bN acs c.price).1.com)).2.1,(repL c.nodes c.blkB bl 0 (bN acs c.price).1 (kz (bN acs c.price).1.com)).2.2.1,(repL c.nodes c.blkB bl 0 (bN acs c.price).1 (kz (bN acs c.price).1.com)).2.2.2)
theorem HV {l:List dM} {k:Nat} (hk:k < l.length):bI (l.map blkM) l.length (k:Int)=some (blkM l[k]):=dB hk (by simp [hk])
theorem Bn {a:eM} {b:dM} (h:fB a):fB (iK a b):=Hw (vf h).1
theorem Ul (acs:List bd) (c:nf) (bl:List dM) (hl:acs.length≤100000) (eP: ∀a∈acs,pB a) (hc:Qs c) (kS:bl.length≤100000) (hb: ∀b∈bl,dG b):aT Tryz.prog GU 40 [.sl acs.length (acs.map aV),cfM c, .sl bl.length (bl.map blkM)] [] 0 (.tup [appM (iI acs c bl).1,fH (iI acs c bl).2.1, .int .i64 (iI acs c bl).2.2.1, .int .i64 (iI acs c bl).2.2.2]) [] 0:=by
 have cv:=Mv (G:=GU) c hc;have ci:=NH acs c.price hl eP hc.h9;have hi:=pg (acs:=acs) (p:=c.price) eP hc.h9;unfold iI;generalize ky c=v at *;generalize bN acs c.price=ia at *;obtain⟨a0,ea⟩:=ia;dsimp only at ci hi ⊢;by_cases hv:v=0;rotate_left
 ·rw [if_pos hv];clear ci hi hb;refine dK seat Tryz.func40 81 ?_;refine aa ?_;refine dZ (cv) ?_;refine ad rfl ?_ ?_ <;> intro h
  ·refine aa ?_;refine au ?_;refine⟨[_,_,_,_],[],[],rfl,rfl,trivial,rfl,⟨?_,?_,?_,?_,trivial⟩,?_⟩
   ·exact ff
   ·exact rv
   ·exact rv
   ·exact rv
   ·exact mm
  ·exact absurd (by simpa using h) hv
 subst hv;rw [if_neg sm];by_cases YF:ea=0;rotate_left
 ·rw [if_pos YF];have hz:((ea:Int) !=0)=true:=by simp;omega
  clear hi hb;obtain⟨⟨a1,b1⟩,⟨a2,b2⟩,⟨a3,b3⟩,op,price⟩:=a0;unfold appM eo at ci;dsimp only at ci;refine dK seat Tryz.func40 81 ?_;refine aa ?_;refine dZ (cv) ?_;refine jn (ci) ?_;rw [hz];refine aa ?_;refine au ?_;refine⟨[_,_,_,_],[],[],rfl,rfl,trivial,rfl,⟨?_,?_,?_,?_,trivial⟩,?_⟩
  ·exact ff
  ·exact rv
  ·exact rv
  ·exact rv
  ·exact mm
 subst YF;rw [if_neg sm];have cg:=ME (G:=GU) a0.com hi.1;have ht:=(r9 a0.com).1;generalize kz a0.com=t0 at *;generalize hR:repL c.nodes c.blkB bl 0 a0 t0=R;obtain⟨⟨⟨r1,q1⟩,⟨r2,q2⟩,⟨r3,q3⟩,rop,rpr⟩,Rt,Rn,Re⟩:=R;obtain⟨⟨a1,b1⟩,⟨a2,b2⟩,⟨a3,b3⟩,op,price⟩:=a0;unfold appM eo at ci ⊢;unfold eo at cg;dsimp only at ci cg ⊢;refine dK seat Tryz.func40 81 ?_;refine aa ?_;refine dZ (cv) ?_;refine jn (ci) ?_;refine dZ (cg) ?_;refine av (Nat×eM×eR) (fun x=> [(41, .int .i64 x.1),(40, .int .i64 bl.length),(39, .sl bl.length (bl.map blkM)),(4, .ptr 0 12 0 0 []),(6, .ptr 1 8 0 0 []),(7, .ptr 2 98 0 0 [])]) (fun x=> [(0,⟨66,12,false,0,[cfM c]⟩),(1,⟨35,8,false,0,[.st [.st [.sl x.2.1.com.acs.length (x.2.1.com.acs.map aV), .int .u64 x.2.1.com.col], .st [.sl x.2.1.chk.acs.length (x.2.1.chk.acs.map aV), .int .u64 x.2.1.chk.col], .st [.sl x.2.1.nxt.acs.length (x.2.1.nxt.acs.map aV), .int .u64 x.2.1.nxt.col], .bool x.2.1.opn, .int .u64 x.2.1.price]]⟩),(2,⟨70,98,false,0,[fH x.2.2]⟩)]) 3 (fun x=>x.1≤bl.length∧fB x.2.1∧ju x.2.2∧repL c.nodes c.blkB (bl.drop x.1) x.1 x.2.1 x.2.2=(⟨⟨r1,q1⟩,⟨r2,q2⟩,⟨r3,q3⟩,rop,rpr⟩,Rt,Rn,Re)) (fun x=>bl.length - x.1) (0,⟨⟨a1,b1⟩,⟨a2,b2⟩,⟨a3,b3⟩,op,price⟩,t0) ⟨a₇ _,hi,ht,by dsimp only;rw [b₄];exact hR⟩ (by dsimp only;exact(vm [(0,_),(1,_),(2,_)] [])) ?_;clear hR ht cg ci cv hi;clear a1 b1 a2 b2 a3 b3 op price t0;rintro⟨k,⟨⟨a1,b1⟩,⟨a2,b2⟩,⟨a3,b3⟩,op,price⟩,t⟩ ⟨hk,ha,ht,hR⟩;try dsimp only
 dsimp only at hk ha ht hR;refine aa ?_;refine ad rfl ?_ ?_ <;> intro h
 ·have aC:k < bl.length:=by have:=ot h;omega
  have aH:=HV aC;have xP:=hb _ (b₅ aC);rw [a₃ aC,repL] at hR;generalize bl[k] =b at *;have aH:=aj.mk aH;have cc:=tH (G:=GU) t b c.nodes c.blkB ht xP.hd hc.h11 hc.h7 (by have:=xP.n;omega) (fun x hx=>by have:=xP.len x hx;omega);have hF:=vf (raws:=b.txs) ha;have cF:=Uj _ b.txs ha (by have:=xP.n;omega) (fun x hx=>by have:=xP.len x hx;omega);have cC:=JZ _ hF.1;have hn:=Bn (b:=b) ha;have cA:=MG (G:=GU) t b (iK ⟨⟨a1,b1⟩,⟨a2,b2⟩,⟨a3,b3⟩,op,price⟩ b).com (iS ⟨⟨a1,b1⟩,⟨a2,b2⟩,⟨a3,b3⟩,op,price⟩ b.txs).2.1 xP.hd hn.1 (by have:=hF.2.2;have:=xP.n;omega) hF.2.1;have hA:=sh (iK ⟨⟨a1,b1⟩,⟨a2,b2⟩,⟨a3,b3⟩,op,price⟩ b).com (iS ⟨⟨a1,b1⟩,⟨a2,b2⟩,⟨a3,b3⟩,op,price⟩ b.txs).2.1 xP.hd;replace hA:=hA.1;unfold r8 at hR;unfold iK at *;generalize iS ⟨⟨a1,b1⟩,⟨a2,b2⟩,⟨a3,b3⟩,op,price⟩ b.txs=F at *;obtain⟨⟨⟨f1,g1⟩,⟨f2,g2⟩,⟨f3,g3⟩,fop,fpr⟩,rs,fe⟩:=F;dsimp only at *;generalize rM ⟨⟨f1,g1⟩,⟨f2,g2⟩,⟨f3,g3⟩,fop,fpr⟩=C at *;obtain⟨⟨⟨c1,d1⟩,⟨c2,d2⟩,⟨c3,d3⟩,cop,cpr⟩,ce⟩:=C;dsimp only at *;generalize pE b ⟨c1,d1⟩ rs=t2 at *;generalize gQ t b c.nodes c.blkB=q at *;obtain⟨hd,txs⟩:=b;unfold appM eo ee at *;dsimp only at *;clear hF xP;by_cases hq:q=0
  ·subst hq;rw [if_neg sm] at hR;refine aa ?_;refine dZ (cc) ?_;refine jn (cF) ?_;refine jn (cC) ?_;refine dZ (cA) ?_;exact⟨(k + 1,⟨⟨c1,d1⟩,⟨c2,d2⟩,⟨c3,d3⟩,cop,cpr⟩,t2),⟨dm,hn,hA,hR⟩,dm,(by dsimp only;exact(vm [(0,_),(1,_),(2,_)] []))⟩
  ·rw [if_pos hq] at hR;simp only [app0,lg0,a₁,eM.mk.injEq,eh.mk.injEq] at hR;obtain⟨⟨⟨rfl,rfl⟩,⟨rfl,rfl⟩,⟨rfl,rfl⟩,rfl,rfl⟩,rfl,rfl,rfl⟩:=hR;have hz:((q:Int) !=0)=true:=by simp;omega
   refine aa ?_;refine dZ (cc) ?_;rw [hz];refine aa ?_;refine au ?_;refine⟨[_,_,_,_],[],[],rfl,rfl,trivial,rfl,⟨?_,?_,?_,?_,trivial⟩,?_⟩
   ·exact ff
   ·exact rv
   ·exact rv
   ·exact rv
   ·exact mm
 ·have aC:k=bl.length:=by have:=oF h;omega
  subst aC;rw [a₆,repL] at hR;simp only [a₁,eM.mk.injEq,eh.mk.injEq] at hR;obtain⟨⟨⟨rfl,rfl⟩,⟨rfl,rfl⟩,⟨rfl,rfl⟩,rfl,rfl⟩,rfl,rfl,rfl⟩:=hR;refine aa ?_;refine al [ae 0,ae 1,ae 2,ae 3,ae 4,ae 5] ?_;refine aa ?_;refine au ?_;exact en [_,_,_,_]
theorem Um (acs:List bd) (c:nf) (bl:List dM) (hl:acs.length≤100000) (eP: ∀a∈acs,pB a) (hc:Qs c) (kS:bl.length≤100000) (hb: ∀b∈bl,dG b):aT Tryz.prog GU 41 [.sl acs.length (acs.map aV),cfM c, .sl bl.length (bl.map blkM)] [] 0 (.tup [appM (iI acs c bl).1,fH (iI acs c bl).2.1, .int .i64 (iI acs c bl).2.2.1, .int .i64 (iI acs c bl).2.2.2]) [] 0:=by
 have cv:=Dn (G:=GU) c;have ci:=Hu (G:=GU) acs c.price om eP hc.h9;have hi:=pg (acs:=acs) (p:=c.price) eP hc.h9;unfold iI;generalize ky c=v at *;generalize bN acs c.price=ia at *;obtain⟨a0,ea⟩:=ia;dsimp only at ci hi ⊢;by_cases hv:v=0;rotate_left
 ·rw [if_pos hv];clear ci hi hb;refine dK seat Tryz.func41 83 ?_;refine aa ?_;refine dZ (cv) ?_;refine ad rfl ?_ ?_ <;> intro h
  ·refine aa ?_;refine au ?_;refine⟨[_,_,_,_],[],[],rfl,rfl,trivial,rfl,⟨?_,?_,?_,?_,trivial⟩,?_⟩
   ·exact ff
   ·exact rv
   ·exact rv
   ·exact rv
   ·exact mm
  ·exact absurd (by simpa using h) hv
 subst hv;rw [if_neg sm];by_cases YF:ea=0;rotate_left
 ·rw [if_pos YF];have hz:((ea:Int) !=0)=true:=by simp;omega
  clear hi hb;obtain⟨⟨a1,b1⟩,⟨a2,b2⟩,⟨a3,b3⟩,op,price⟩:=a0;unfold appM eo at ci;dsimp only at ci;refine dK seat Tryz.func41 83 ?_;refine aa ?_;refine dZ (cv) ?_;refine jn (ci) ?_;rw [hz];refine aa ?_;refine au ?_;refine⟨[_,_,_,_],[],[],rfl,rfl,trivial,rfl,⟨?_,?_,?_,?_,trivial⟩,?_⟩
  ·exact ff
  ·exact rv
  ·exact rv
  ·exact rv
  ·exact mm
 subst YF;rw [if_neg sm];have cg:=MD (G:=GU) a0.com hi.1;have ht:=(r9 a0.com).1;generalize kz a0.com=t0 at *;generalize hR:repL c.nodes c.blkB bl 0 a0 t0=R;obtain⟨⟨⟨r1,q1⟩,⟨r2,q2⟩,⟨r3,q3⟩,rop,rpr⟩,Rt,Rn,Re⟩:=R;obtain⟨⟨a1,b1⟩,⟨a2,b2⟩,⟨a3,b3⟩,op,price⟩:=a0;unfold appM eo at ci ⊢;unfold eo at cg;dsimp only at ci cg ⊢;refine dK seat Tryz.func41 83 ?_;refine aa ?_;refine dZ (cv) ?_;refine jn (ci) ?_;refine dZ (cg) ?_;refine av (Nat×eM×eR) (fun x=> [(44, .int .i64 x.1),(43, .int .i64 bl.length),(42, .sl bl.length (bl.map blkM)),(4, .ptr 0 12 0 0 []),(11, .ptr 1 8 0 0 []),(13, .ptr 2 98 0 0 []),(6, .ptr 3 8 0 0 []),(7, .ptr 4 98 0 0 [])]) (fun x=> [(0,⟨66,12,false,0,[cfM c]⟩),(1,⟨35,8,false,0,[.st [.st [.sl x.2.1.com.acs.length (x.2.1.com.acs.map aV), .int .u64 x.2.1.com.col], .st [.sl x.2.1.chk.acs.length (x.2.1.chk.acs.map aV), .int .u64 x.2.1.chk.col], .st [.sl x.2.1.nxt.acs.length (x.2.1.nxt.acs.map aV), .int .u64 x.2.1.nxt.col], .bool x.2.1.opn, .int .u64 x.2.1.price]]⟩),(2,⟨70,98,false,0,[fH x.2.2]⟩),(3,⟨35,8,false,0,[apZ]⟩),(4,⟨70,98,false,0,[tipZ]⟩)]) 5 (fun x=>x.1≤bl.length∧fB x.2.1∧ju x.2.2∧repL c.nodes c.blkB (bl.drop x.1) x.1 x.2.1 x.2.2=(⟨⟨r1,q1⟩,⟨r2,q2⟩,⟨r3,q3⟩,rop,rpr⟩,Rt,Rn,Re)) (fun x=>bl.length - x.1) (0,⟨⟨a1,b1⟩,⟨a2,b2⟩,⟨a3,b3⟩,op,price⟩,t0) ⟨a₇ _,hi,ht,by dsimp only;rw [b₄];exact hR⟩ (by dsimp only;exact(vm [(0,_),(1,_),(2,_),(3,_),(4,_)] [])) ?_;clear hR ht cg ci cv hi;clear a1 b1 a2 b2 a3 b3 op price t0;rintro⟨k,⟨⟨a1,b1⟩,⟨a2,b2⟩,⟨a3,b3⟩,op,price⟩,t⟩ ⟨hk,ha,ht,hR⟩;try dsimp only
 dsimp only at hk ha ht hR;refine aa ?_;refine ad rfl ?_ ?_ <;> intro h
 ·have aC:k < bl.length:=by have:=ot h;omega
  have aH:=HV aC;have xP:=hb _ (b₅ aC);rw [a₃ aC,repL] at hR;generalize bl[k] =b at *;have aH:=aj.mk aH;have cc:=MA (G:=GU) t b c.nodes c.blkB ht xP.hd hc.h11 hc.h7 (by have:=xP.n;omega) (fun x hx=>by have:=xP.len x hx;omega);have hF:=vf (raws:=b.txs) ha;have cF:=Sk (G:=GU) _ b.txs ha (by have:=xP.n;omega) (fun x hx=>by have:=xP.len x hx;omega);have cC:=Di (G:=GU) (iS ⟨⟨a1,b1⟩,⟨a2,b2⟩,⟨a3,b3⟩,op,price⟩ b.txs).1;have hn:=Bn (b:=b) ha;have cA:=MF (G:=GU) b (iK ⟨⟨a1,b1⟩,⟨a2,b2⟩,⟨a3,b3⟩,op,price⟩ b).com (iS ⟨⟨a1,b1⟩,⟨a2,b2⟩,⟨a3,b3⟩,op,price⟩ b.txs).2.1 xP.hd hn.1 (by have:=hF.2.2;have:=xP.n;omega) hF.2.1;have hA:=sh (iK ⟨⟨a1,b1⟩,⟨a2,b2⟩,⟨a3,b3⟩,op,price⟩ b).com (iS ⟨⟨a1,b1⟩,⟨a2,b2⟩,⟨a3,b3⟩,op,price⟩ b.txs).2.1 xP.hd;replace hA:=hA.1;unfold r8 at hR;unfold iK at *;generalize iS ⟨⟨a1,b1⟩,⟨a2,b2⟩,⟨a3,b3⟩,op,price⟩ b.txs=F at *;obtain⟨⟨⟨f1,g1⟩,⟨f2,g2⟩,⟨f3,g3⟩,fop,fpr⟩,rs,fe⟩:=F;dsimp only at *;generalize rM ⟨⟨f1,g1⟩,⟨f2,g2⟩,⟨f3,g3⟩,fop,fpr⟩=C at *;obtain⟨⟨⟨c1,d1⟩,⟨c2,d2⟩,⟨c3,d3⟩,cop,cpr⟩,ce⟩:=C;dsimp only at *;generalize pE b ⟨c1,d1⟩ rs=t2 at *;generalize gQ t b c.nodes c.blkB=q at *;obtain⟨hd,txs⟩:=b;unfold appM eo ee at *;dsimp only at *;clear hF xP;by_cases hq:q=0
  ·subst hq;rw [if_neg sm] at hR;refine aa ?_;refine dZ (cc) ?_;refine jn (cF) ?_;refine jn (cC) ?_;refine dZ (cA) ?_;exact⟨(k + 1,⟨⟨c1,d1⟩,⟨c2,d2⟩,⟨c3,d3⟩,cop,cpr⟩,t2),⟨dm,hn,hA,hR⟩,dm,(by dsimp only;exact(vm [(0,_),(1,_),(2,_),(3,_),(4,_)] []))⟩
  ·rw [if_pos hq] at hR;simp only [app0,lg0,a₁,eM.mk.injEq,eh.mk.injEq] at hR;obtain⟨⟨⟨rfl,rfl⟩,⟨rfl,rfl⟩,⟨rfl,rfl⟩,rfl,rfl⟩,rfl,rfl,rfl⟩:=hR;have hz:((q:Int) !=0)=true:=by simp;omega
   refine aa ?_;refine dZ (cc) ?_;rw [hz];refine aa ?_;refine au ?_;refine⟨[_,_,_,_],[],[],rfl,rfl,trivial,rfl,⟨?_,?_,?_,?_,trivial⟩,?_⟩
   ·exact ff
   ·exact rv
   ·exact rv
   ·exact rv
   ·exact mm
 ·have aC:k=bl.length:=by have:=oF h;omega
  subst aC;rw [a₆,repL] at hR;simp only [a₁,eM.mk.injEq,eh.mk.injEq] at hR;obtain⟨⟨⟨rfl,rfl⟩,⟨rfl,rfl⟩,⟨rfl,rfl⟩,rfl,rfl⟩,rfl,rfl,rfl⟩:=hR;refine aa ?_;refine al [ae 0,ae 1,ae 2,ae 3,ae 4,ae 5] ?_;refine aa ?_;refine au ?_;exact en [_,_,_,_]
end
end Go.Proofs.YtohikcplmbkmeaaGreatDoor
