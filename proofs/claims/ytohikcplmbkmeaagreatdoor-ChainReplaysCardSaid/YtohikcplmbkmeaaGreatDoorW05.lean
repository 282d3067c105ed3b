/- Parts of a proof. -/
import Derived.Test.YtohikcplmbkmeaaGreatDoorW04
open Prod.mk renaming injEq → a₀
open List renaming length_append → a₁,length_drop → a₂,length_singleton → a₃,drop_eq_getElem_cons → a₄,drop_zero → a₇,take_of_length_le → a₈,take_succ_eq_append_getElem → b₀,getElem_mem → b₂,drop_length → b₃,length_map → b₅,mem_singleton → b₆,length_take → b₈,all_append → c₁,take_length → c₂,nil_append → c₆,drop_eq_nil_of_le → c₈,take_append_drop → c₉,length_cons → d₁
open Nat renaming zero_le → a₅,mul_le_mul_right → a₆,mod_eq_of_lt → b₉,lt_or_ge → c₀,pow_succ → c₄,zero_add → c₅,le_refl → c₇,lt_of_le_of_lt → d₀
open Bool renaming false_eq_true → a₉,false_and → b₁,true_and → b₄,and_eq_true → c₃
open And renaming intro → b₇
set_option maxRecDepth 20000
set_option maxHeartbeats 16000000
set_option linter.unusedVariables false
set_option linter.unusedSimpArgs false
namespace Go.Proofs.YtohikcplmbkmeaaGreatDoor
open Go.RowKit
section
variable {G:GS}
attribute [local irreducible] ak aB aD aJ aQ vC aY aw
structure mF where
 to_:List UInt8
 amt:Nat
 deriving DecidableEq
structure jX where
 sender:List UInt8
 seq:Nat
 gas:Nat
 fee:Nat
 memo:List UInt8
 trs:List mF
 deriving DecidableEq
def mU (x:mF):MV:= .st [.str x.to_, .int .u64 x.amt]
def pR (t:jX):MV:= .st [.str t.sender, .int .u64 t.seq, .int .u64 t.gas, .int .u64 t.fee, .str t.memo, .sl t.trs.length (t.trs.map mU)]
abbrev bm (n:Nat):Prop:=n < 18446744073709551616
def nV (x:mF):Prop:=x.to_.length≤5000∧bm x.amt
def jz (t:jX):Prop:=t.sender.length≤5000∧bm t.seq∧bm t.gas∧bm t.fee∧t.memo.length≤5000∧t.trs.length≤5000∧∀x∈t.trs,nV x
def nW (x:mF):fq:=⟨6,2,0,aG (bQ 1 x.to_ ++ dz 2 x.amt)⟩
def jr (t:jX):List fq:=bQ 1 t.sender ++ dz 2 t.seq ++ dz 3 t.gas ++ dz 4 t.fee ++ bQ 5 t.memo ++ t.trs.map nW
def fY (t:jX):List UInt8:=aG (jr t)
theorem iQ {f:fq} (hf:jo f):(aZ f).length≤f.bytes.length + 20:=by
 have h1:=(dW (n:=f.num * 8 + f.kind) (by unfold jo at hf;omega)).2;unfold aZ;rw [a₁];split
 ·have h2:=(dW (n:=f.val) (by unfold jo at hf;omega)).2;omega
 ·rename_i hk;have h2:=(dW (n:=f.bytes.length) (by unfold jo at hf;omega)).2;rw [a₁];omega
theorem fJ (B:Nat): ∀(l:List fq),(∀f∈l,jo f∧f.bytes.length≤B)→(aG l).length≤l.length * (B + 20)
 | [],_=>by simp [aG]
 | f :: l,h=>by
  have h1:=iQ (h f sm).1
  have h2:=(h f sm).2
  have ih:=fJ B l fun g hg=>h g (by simp [hg])
  have e:aG (f :: l)=aZ f ++ aG l:=by simp [aG]
  rw [e,a₁,d₁,Nat.add_mul]
  omega
theorem ko {n:Nat} {s:List UInt8} (h1:1≤n) (h2:n≤100) (B:Nat) (hs:s.length≤B) (hB:B < 18446744073709551616):(∀f∈bQ n s,jo f∧f.bytes.length≤B)∧(bQ n s).length≤1:=by
 unfold bQ;split
 ·simp
 ·refine⟨fun f hf=>?_,sm⟩;rw [b₆.1 hf];exact⟨⟨dm,dm, .inr ⟨rfl,rfl,dm⟩⟩,hs⟩
theorem mG {n v:Nat} (h1:1≤n) (h2:n≤100) (B:Nat) (hv:bm v):(∀f∈dz n v,jo f∧f.bytes.length≤B)∧(dz n v).length≤1:=by
 unfold dz;split
 ·simp
 ·refine⟨fun f hf=>?_,sm⟩;rw [b₆.1 hf];exact⟨⟨dm,dm, .inl ⟨rfl,rfl,hv⟩⟩,sm⟩
theorem fa {α:Type} {p:α→Prop} {a b:List α} (ha: ∀x∈a,p x) (hb: ∀x∈b,p x): ∀x∈a ++ b,p x:=fun x hx=>(List.mem_append.1 hx).elim (ha x) (hb x)
theorem rH {x:mF} (h:nV x):(∀f∈bQ 1 x.to_ ++ dz 2 x.amt,jo f∧f.bytes.length≤5000)∧(bQ 1 x.to_ ++ dz 2 x.amt).length≤2:=by
 have h1:=ko (n:=1) (s:=x.to_) om om 5000 h.1 om;have h2:=mG (n:=2) (v:=x.amt) om om 5000 h.2;exact⟨fa h1.1 h2.1,by rw [a₁];omega⟩
theorem o6 {x:mF} (h:nV x):(aG (bQ 1 x.to_ ++ dz 2 x.amt)).length≤10040:=by
 have h1:=rH h;have h2:=fJ 5000 _ h1.1;have h3:=a₆ (5000 + 20) h1.2;omega
theorem Tp {x:mF} (h:nV x):jo (nW x)∧(nW x).bytes.length≤10040:=by
 have:=o6 h;exact⟨⟨by unfold nW;dsimp only;omega,by unfold nW;dsimp only;omega, .inr ⟨rfl,rfl,by unfold nW;dsimp only;omega⟩⟩,this⟩
theorem wT {t:jX} (h:jz t):(∀f∈jr t,jo f∧f.bytes.length≤10040)∧(jr t).length≤5005:=by
 obtain⟨h1,h2,h3,h4,h5,h6,h7⟩:=h;have a1:=ko (n:=1) (s:=t.sender) om om 10040 om om;have a2:=mG (n:=2) (v:=t.seq) om om 10040 h2;have a3:=mG (n:=3) (v:=t.gas) om om 10040 h3;have a4:=mG (n:=4) (v:=t.fee) om om 10040 h4;have a5:=ko (n:=5) (s:=t.memo) om om 10040 om om;unfold jr;refine⟨fa (fa (fa (fa (fa a1.1 a2.1) a3.1) a4.1) a5.1) fun f hf=>?_,?_⟩
 ·obtain⟨x,hx,rfl⟩:=List.mem_map.1 hf;exact Tp (h7 x hx)
 ·simp only [a₁,b₅];omega
theorem tz {t:jX} (h:jz t):(fY t).length≤50350300:=by
 have h1:=wT h;have h2:=fJ 10040 _ h1.1;have h3:=a₆ (10040 + 20) h1.2;unfold fY;omega
theorem mH {l:List mF} {k:Nat} (hk:k < l.length):bI (l.map mU) l.length (k:Int)=some (mU l[k]):=dB hk (by simp [hk])
theorem LH (t:jX) (ht:jz t):aT Tryz.prog G 72 [pR t] [] 0 (.sl (fY t).length (u8s (fY t))) [] 0:=by
 have eG:=wT ht;have xN:=tz ht;obtain⟨sender,seq,gas,fee,memo,trs⟩:=t;obtain⟨h1,h2,h3,h4,h5,h6,h7⟩:=ht;dsimp only at h1 h2 h3 h4 h5 h6 h7;have cm:=oZ (G:=G) _ (fun f hf=>(eG.1 f hf).1) (show(aG _).length < 200000000 from d₀ xN om) om;have a1:=(ko (n:=1) (s:=sender) om om 10040 om om).2;have a2:=(mG (n:=2) (v:=seq) om om 10040 h2).2;have a3:=(mG (n:=3) (v:=gas) om om 10040 h3).2;have a4:=(mG (n:=4) (v:=fee) om om 10040 h4).2;have a5:=(ko (n:=5) (s:=memo) om om 10040 om om).2;unfold fY jr at *;unfold pR;dsimp only at *;have c1:=AQ (G:=G) [] 1 sender sm om;rw [c₆] at c1;generalize bQ 1 sender=l1 at *;have c2:=nU (G:=G) l1 2 seq om;have q2:(l1 ++ dz 2 seq).length≤2:=by rw [a₁];omega
 generalize l1 ++ dz 2 seq=l2 at *;have c3:=nU (G:=G) l2 3 gas om;have q3:(l2 ++ dz 3 gas).length≤3:=by rw [a₁];omega
 generalize l2 ++ dz 3 gas=l3 at *;have c4:=nU (G:=G) l3 4 fee om;have q4:(l3 ++ dz 4 fee).length≤4:=by rw [a₁];omega
 generalize l3 ++ dz 4 fee=l4 at *;have c5:=AQ (G:=G) l4 5 memo om om;have q5:(l4 ++ bQ 5 memo).length≤5:=by rw [a₁];omega
 generalize l4 ++ bQ 5 memo=l5 at *;unfold AP at c1 c2 c3 c4 c5;refine dK seat Tryz.func72 46 ?_;refine aa ?_;refine yc (c1) [] ?_;refine aa ?_;refine bF rfl aA rfl (c2) [(0,_)] [] ⟨rfl,trivial,rfl,lm,mm⟩ rfl rfl ?_;refine aa ?_;refine bF rfl aA rfl (c3) [(0,_)] [] ⟨rfl,trivial,rfl,lm,mm⟩ rfl rfl ?_;refine aa ?_;refine bF rfl aA rfl (c4) [(0,_)] [] ⟨rfl,trivial,rfl,lm,mm⟩ rfl rfl ?_;refine aa ?_;refine bF rfl aA rfl (c5) [(0,_)] [] ⟨rfl,trivial,rfl,lm,mm⟩ rfl rfl ?_;refine aa ?_;refine av Nat (fun k=> [(28, .int .i64 k),(27, .int .i64 trs.length),(26, .sl trs.length (trs.map mU)),(3, .ms 0 4 0 (l5 ++ (trs.take k).map nW).length)]) (fun k=> [(0,⟨183,4,true,0,(l5 ++ (trs.take k).map nW).map cj⟩)]) 1 (fun k=>k≤trs.length) (fun k=>trs.length - k) 0 (a₅ _) (by rw [List.take_zero,List.map_nil,List.append_nil];exact(vm [(0,_)] [])) ?_;intro k hk;try dsimp only
 refine aa ?_;refine ad rfl ?_ ?_ <;> intro h
 ·have aC:k < trs.length:=by have:=ot h;omega
  have hx:=h7 _ (b₂ aC);have aH:=mH aC;have cW:l5 ++ (trs.take (k + 1)).map nW=(l5 ++ (trs.take k).map nW) ++ [nW trs[k]] :=by rw [b₀ aC,List.map_append,List.append_assoc];rfl
  have ni:(l5 ++ (trs.take k).map nW).length≤5005:=by rw [a₁,b₅,b₈];omega
  generalize trs[k] =x at *;generalize l5 ++ (trs.take k).map nW=lk at *;have Zk:=rH hx;have Gq:=o6 hx;have hto:=ko (n:=1) (s:=x.to_) om om 5000 hx.1 om;have d1:=AQ (G:=G) [] 1 x.to_ sm (by have:=hx.1;omega);rw [c₆] at d1;have d2:=nU (G:=G) (bQ 1 x.to_) 2 x.amt om;have d3:=oZ (G:=G) (bQ 1 x.to_ ++ dz 2 x.amt) (fun f hf=>(Zk.1 f hf).1) om om;unfold AP at d1 d2;have htr:nW x=⟨6,2,0,aG (bQ 1 x.to_ ++ dz 2 x.amt)⟩:=rfl;generalize bQ 1 x.to_ ++ dz 2 x.amt=li at *;generalize bQ 1 x.to_=lt at *;generalize aG li=mi at *;(have dh:=aj.mk (aH);refine aa ?_);refine al [ae 0,ae 1,ae 2,dF 3,ae 4,ae 5,dF 6,dF 7,ae 8,ae 9,ae 10,ae 11] ?_;refine aa ?_;refine de rfl aA rfl [] (d1) [] [] ⟨rfl,trivial,rfl,lm,mm⟩ rfl rfl rfl rfl ?_;refine aa ?_;refine de rfl aA rfl [9] (d2) [(0,9)] [] ⟨rfl,trivial,rfl,lm,mm⟩ rfl rfl rfl rfl ?_;refine aa ?_;refine cG rfl aA rfl [12] (d3) rfl [(12,li.length)] mm lm rfl ?_;refine aa ?_;refine bj rfl (by intro R hR;refine da hR ?_;(refine b₇ (c₇ _) ?_;refine⟨_,rfl,?_⟩;refine b₇ ⟨sm,ai (by kernel_rfl) pf⟩ ?_;refine⟨(lk ++ [(⟨6,2,0,mi⟩:fq)]).map cj,sv (by simp;rfl),lk.length + 1,sv pf,?_⟩);exact hR) rfl ?_;refine aa ?_;exact⟨k + 1,by show k + 1≤trs.length;omega,by show trs.length - (k + 1) < trs.length - k;omega,(by dsimp only;rw [cW,htr,a₁,a₃];exact(vm [(0,_)] []))⟩
 ·have aC:k=trs.length:=by have:=oF h;omega
  subst aC;rw [c₂];generalize l5 ++ trs.map nW=lk at *;generalize aG lk=mk at *;refine aa ?_;refine cX rfl aA rfl (cm) rfl [(0,lk.length)] mm lm ?_;refine aa ?_;exact en [_]
end
section
mutual
theorem ic {σ:Nat→Option Nat} {fz:Fz}: ∀(m:MV),m.idFree=true→eZ σ fz m m
 | .st l,h=> .inl ⟨rfl,h⟩
 | .fn f l,h=> .inl ⟨rfl,h⟩
 | .ifc t v,h=> .inl ⟨rfl,h⟩
 | .sl ..,_=> .inl rfl
 | .ep ..,_=> .inl rfl
 | .ptr ..,h=>by cases h
 | .ms ..,h=>by cases h
 | .tup ..,h=>by cases h
 | .undef,h=>by cases h
 | .int ..,_=>⟨rfl,rfl⟩
 | .bool ..,_=>⟨rfl,rfl⟩
 | .str ..,_=>⟨rfl,rfl⟩
 | .nilp,_=>⟨rfl,rfl⟩
 | .gp ..,_=>⟨rfl,rfl⟩
 | .nils,_=>⟨rfl,rfl⟩
 | .nilf,_=>⟨rfl,rfl⟩
 | .nili,_=>⟨rfl,rfl⟩
 | .arr ..,_=>⟨rfl,rfl⟩
theorem bk {σ:Nat→Option Nat} {fz:Fz}: ∀(l:List MV),MV.idFrees l=true→eZ.relVs σ fz l l
 | [],_=>trivial
 | m :: l,h=>by
  simp only [MV.idFrees,c₃] at h
  exact⟨ic m h.1,bk l h.2⟩
end
section
variable {Pg:Program} {T:bD} {N:Nat} {ents:List FuncId} {G:GS} {ops:Array Oper} {d:Tmp} {ty:TypeId} {pos:String} {after:Array Edge} {g:Option (Nat×Bool)} {rest:List Oper} {K:VK} {E:VE} {M:VM} {n:Nat} {f:Operand} {args:Array Operand} {er:Array TypeId} {f0:FuncId} {vs:List MV} {res:MV}
theorem ah (hd:Nat.blt d N=true) (h1: ∀R:FuncId×List MV→Prop,R (f0,vs)→(eI E f args.toList).runP R) (h2:ents.contains f0=true) (hc:aT Pg G f0 vs [] 0 res [] 0) (hf:ek res=true) (hi:MV.idFrees vs=true)
  (h:ak Pg T N ents G ops rest K ((d,res) :: E) M n):aB Pg T N ents G ops ⟨some d, .call ⟨.value f,args,er⟩,ty,pos,after,g⟩ rest K E M n:=
 uZ hd h1 h2 hc hf (bk vs hi) h
end
variable {G:GS}
attribute [local irreducible] ak aB aD aJ aQ vC aY aw
def fM (s:List UInt8) (i:Nat):Bool:=decide (i < s.length) && (decide (128≤(s.getD i 0).toNat) && decide ((s.getD i 0).toNat < 192))
theorem rI {s:List UInt8} {i:Nat} (h:i < s.length):BQ s (i:Int)=some (s.getD i 0):=by
 unfold BQ;rw [if_pos om];simp [h]
theorem P8 {s:List UInt8} {j:Int} (i:Nat) (hj:j=i) (h:i < s.length):BQ s j=some (s.getD i 0):=by
 subst hj;exact rI h
theorem wU (s:List UInt8) (i:Nat) (hs:s.length < 1000000000):aE Tryz.prog G 270 [.str s, .int .i64 i] (.bool (fM s i)):=by
 unfold fM;by_cases hi:i < s.length
 ·have f1:=aj.mk (rI hi);generalize s.getD i 0=c at *;rw [decide_eq_true hi,b₄];by_cases h1:128≤c.toNat
  ·rw [decide_eq_true h1,b₄];refine bA seat Tryz.func270 21 ?_;(iterate 3 ((all_goals(refine aa ?_));(all_goals(first | ((first | refine ag rfl rfl ?_ rfl ?_ | refine ad rfl ?_ ?_);all_goals(intro h;(try simp only [pl] at h);(try (exfalso;omega)))) | skip))));all_goals first | (exfalso;omega) | (refine au ?_;first | rfl | exact congrArg MV.bool (decide_eq_decide.2 (by omega)))
  ·rw [decide_eq_false h1,b₁];refine bA seat Tryz.func270 21 ?_;(iterate 3 ((all_goals(refine aa ?_));(all_goals(first | ((first | refine ag rfl rfl ?_ rfl ?_ | refine ad rfl ?_ ?_);all_goals(intro h;(try simp only [pl] at h);(try (exfalso;omega)))) | skip))));all_goals first | (exfalso;omega) | (refine au ?_;first | rfl | exact congrArg MV.bool (decide_eq_decide.2 (by omega)))
 ·rw [decide_eq_false hi,b₁];refine bA seat Tryz.func270 21 ?_;(iterate 3 ((all_goals(refine aa ?_));(all_goals(first | ((first | refine ag rfl rfl ?_ rfl ?_ | refine ad rfl ?_ ?_);all_goals(intro h;(try simp only [pl] at h);(try (exfalso;omega)))) | skip))));all_goals first | (exfalso;omega) | (refine au ?_;first | rfl | exact congrArg MV.bool (decide_eq_decide.2 (by omega)))
def nX (s:List UInt8) (i:Nat):Nat:=
 if (s.getD i 0).toNat < 128 then 1 else
 if 194≤(s.getD i 0).toNat∧(s.getD i 0).toNat < 224∧fM s (i + 1)=true then 2 else
 if 224≤(s.getD i 0).toNat∧(s.getD i 0).toNat < 240∧fM s (i + 1)=true∧fM s (i + 2)=true then
  (if (s.getD i 0).toNat=224∧(s.getD (i + 1) 0).toNat < 160∨(s.getD i 0).toNat=237∧160≤(s.getD (i + 1) 0).toNat then 0 else 3) else
 if 240≤(s.getD i 0).toNat∧(s.getD i 0).toNat < 245∧fM s (i + 1)=true∧fM s (i + 2)=true∧fM s (i + 3)=true then
  (if (s.getD i 0).toNat=240∧(s.getD (i + 1) 0).toNat < 144∨(s.getD i 0).toNat=244∧144≤(s.getD (i + 1) 0).toNat then 0 else 4) else 0
theorem Fu {s:List UInt8} {i:Nat} (h:fM s i=true):i < s.length:=by
 unfold fM at h;rw [c₃] at h;exact ot h.1
theorem Tq (s:List UInt8) (i:Nat) (hs:s.length < 1000000000) (hi:i < s.length):aE Tryz.prog G 239 [.str s, .int .i64 i] (.int .i64 (nX s i)):=by
 have f0:=aj.mk (rI hi);have c1:aE Tryz.prog G 270 [.str s, .int .i64 ((i:Int) + 1)] _:=wU s (i + 1) hs;have c2:aE Tryz.prog G 270 [.str s, .int .i64 ((i:Int) + 2)] _:=wU s (i + 2) hs;have c3:aE Tryz.prog G 270 [.str s, .int .i64 ((i:Int) + 3)] _:=wU s (i + 3) hs;generalize hr:nX s i=r;unfold nX at hr;have l1:=Fu (s:=s) (i:=i + 1);have f1:i + 1 < s.length→BQ s ((i:Int) + 1)=some (s.getD (i + 1) 0):=fun h=>P8 (i + 1) om h
 generalize s.getD i 0=x at *;generalize s.getD (i + 1) 0=y at *;generalize fM s (i + 1)=b1 at *;generalize fM s (i + 2)=b2 at *;generalize fM s (i + 3)=b3 at *;rcases c₀ x.toNat 128 with g1 | g1
 ·
  clear l1 f1;refine bA seat Tryz.func239 109 ?_;(iterate 12 ((all_goals(refine aa ?_));(all_goals(first | (refine ah rfl aA rfl (src (c1)) rfl rfl ?_) | (refine ah rfl aA rfl (src (c2)) rfl rfl ?_) | (refine ah rfl aA rfl (src (c3)) rfl rfl ?_) | ((first | refine ag rfl rfl ?_ rfl ?_ | refine ad rfl ?_ ?_);all_goals(intro h;(try simp only [pl] at h);(try (exfalso;omega)))) | skip))));refine au ?_;exact congrArg (MV.int .i64) (by subst hr;(repeat(first | rw [if_pos (by omega)] | rw [if_neg (by omega)]));first | rfl | omega)
 rcases c₀ x.toNat 194 with g2 | g2
 ·
  clear l1 f1;refine bA seat Tryz.func239 109 ?_;(iterate 12 ((all_goals(refine aa ?_));(all_goals(first | (refine ah rfl aA rfl (src (c1)) rfl rfl ?_) | (refine ah rfl aA rfl (src (c2)) rfl rfl ?_) | (refine ah rfl aA rfl (src (c3)) rfl rfl ?_) | ((first | refine ag rfl rfl ?_ rfl ?_ | refine ad rfl ?_ ?_);all_goals(intro h;(try simp only [pl] at h);(try (exfalso;omega)))) | skip))));refine au ?_;exact congrArg (MV.int .i64) (by subst hr;(repeat(first | rw [if_pos (by omega)] | rw [if_neg (by omega)]));first | rfl | omega)
 rcases c₀ x.toNat 224 with g3 | g3
 ·cases b1 with
  | false=>
   simp only [a₉,and_false,and_true,false_and,true_and,if_false] at hr;clear l1 f1;refine bA seat Tryz.func239 109 ?_;(iterate 12 ((all_goals(refine aa ?_));(all_goals(first | (refine ah rfl aA rfl (src (c1)) rfl rfl ?_) | (refine ah rfl aA rfl (src (c2)) rfl rfl ?_) | (refine ah rfl aA rfl (src (c3)) rfl rfl ?_) | ((first | refine ag rfl rfl ?_ rfl ?_ | refine ad rfl ?_ ?_);all_goals(intro h;(try simp only [pl] at h);(try (exfalso;omega)))) | skip))));refine au ?_;exact congrArg (MV.int .i64) (by subst hr;(repeat(first | rw [if_pos (by omega)] | rw [if_neg (by omega)]));first | rfl | omega)
  | true=>
   rw [if_neg om,if_pos ⟨om,om,rfl⟩] at hr;clear l1 f1;refine bA seat Tryz.func239 109 ?_;(iterate 12 ((all_goals(refine aa ?_));(all_goals(first | (refine ah rfl aA rfl (src (c1)) rfl rfl ?_) | (refine ah rfl aA rfl (src (c2)) rfl rfl ?_) | (refine ah rfl aA rfl (src (c3)) rfl rfl ?_) | ((first | refine ag rfl rfl ?_ rfl ?_ | refine ad rfl ?_ ?_);all_goals(intro h;(try simp only [pl] at h);(try (exfalso;omega)))) | skip))));refine au ?_;exact congrArg (MV.int .i64) (by subst hr;(repeat(first | rw [if_pos (by omega)] | rw [if_neg (by omega)]));first | rfl | omega)
 rw [if_neg om,if_neg om] at hr;rcases c₀ x.toNat 240 with g4 | g4
 ·cases b1 with
  | false=>
   simp only [a₉,and_false,and_true,false_and,true_and,if_false] at hr;clear l1 f1;refine bA seat Tryz.func239 109 ?_;(iterate 12 ((all_goals(refine aa ?_));(all_goals(first | (refine ah rfl aA rfl (src (c1)) rfl rfl ?_) | (refine ah rfl aA rfl (src (c2)) rfl rfl ?_) | (refine ah rfl aA rfl (src (c3)) rfl rfl ?_) | ((first | refine ag rfl rfl ?_ rfl ?_ | refine ad rfl ?_ ?_);all_goals(intro h;(try simp only [pl] at h);(try (exfalso;omega)))) | skip))));refine au ?_;exact congrArg (MV.int .i64) (by subst hr;(repeat(first | rw [if_pos (by omega)] | rw [if_neg (by omega)]));first | rfl | omega)
  | true=>
   cases b2 with
   | false=>
    simp only [a₉,and_false,and_true,false_and,true_and,if_false] at hr;clear l1 f1;refine bA seat Tryz.func239 109 ?_;(iterate 12 ((all_goals(refine aa ?_));(all_goals(first | (refine ah rfl aA rfl (src (c1)) rfl rfl ?_) | (refine ah rfl aA rfl (src (c2)) rfl rfl ?_) | (refine ah rfl aA rfl (src (c3)) rfl rfl ?_) | ((first | refine ag rfl rfl ?_ rfl ?_ | refine ad rfl ?_ ?_);all_goals(intro h;(try simp only [pl] at h);(try (exfalso;omega)))) | skip))));refine au ?_;exact congrArg (MV.int .i64) (by subst hr;(repeat(first | rw [if_pos (by omega)] | rw [if_neg (by omega)]));first | rfl | omega)
   | true=>
    have f1:=aj.mk (f1 (l1 rfl));rw [if_pos ⟨om,om,rfl,rfl⟩] at hr;refine bA seat Tryz.func239 109 ?_;(iterate 20 ((all_goals(refine aa ?_));(all_goals(first | (refine ah rfl aA rfl (src (c1)) rfl rfl ?_) | (refine ah rfl aA rfl (src (c2)) rfl rfl ?_) | (refine ah rfl aA rfl (src (c3)) rfl rfl ?_) | ((first | refine ag rfl rfl ?_ rfl ?_ | refine ad rfl ?_ ?_);all_goals(intro h;(try simp only [pl] at h);(try (exfalso;omega)))) | skip))));all_goals(refine au ?_;exact congrArg (MV.int .i64) (by subst hr;(repeat(first | rw [if_pos (by omega)] | rw [if_neg (by omega)]));first | rfl | omega))
 rw [if_neg om] at hr;rcases c₀ x.toNat 245 with g5 | g5
 ·cases b1 with
  | false=>
   simp only [a₉,and_false,and_true,false_and,true_and,if_false] at hr;clear l1 f1;refine bA seat Tryz.func239 109 ?_;(iterate 12 ((all_goals(refine aa ?_));(all_goals(first | (refine ah rfl aA rfl (src (c1)) rfl rfl ?_) | (refine ah rfl aA rfl (src (c2)) rfl rfl ?_) | (refine ah rfl aA rfl (src (c3)) rfl rfl ?_) | ((first | refine ag rfl rfl ?_ rfl ?_ | refine ad rfl ?_ ?_);all_goals(intro h;(try simp only [pl] at h);(try (exfalso;omega)))) | skip))));refine au ?_;exact congrArg (MV.int .i64) (by subst hr;(repeat(first | rw [if_pos (by omega)] | rw [if_neg (by omega)]));first | rfl | omega)
  | true=>
   cases b2 with
   | false=>
    simp only [a₉,and_false,and_true,false_and,true_and,if_false] at hr;clear l1 f1;refine bA seat Tryz.func239 109 ?_;(iterate 12 ((all_goals(refine aa ?_));(all_goals(first | (refine ah rfl aA rfl (src (c1)) rfl rfl ?_) | (refine ah rfl aA rfl (src (c2)) rfl rfl ?_) | (refine ah rfl aA rfl (src (c3)) rfl rfl ?_) | ((first | refine ag rfl rfl ?_ rfl ?_ | refine ad rfl ?_ ?_);all_goals(intro h;(try simp only [pl] at h);(try (exfalso;omega)))) | skip))));refine au ?_;exact congrArg (MV.int .i64) (by subst hr;(repeat(first | rw [if_pos (by omega)] | rw [if_neg (by omega)]));first | rfl | omega)
   | true=>
    cases b3 with
    | false=>
     simp only [a₉,and_false,and_true,false_and,true_and,if_false] at hr;clear l1 f1;refine bA seat Tryz.func239 109 ?_;(iterate 12 ((all_goals(refine aa ?_));(all_goals(first | (refine ah rfl aA rfl (src (c1)) rfl rfl ?_) | (refine ah rfl aA rfl (src (c2)) rfl rfl ?_) | (refine ah rfl aA rfl (src (c3)) rfl rfl ?_) | ((first | refine ag rfl rfl ?_ rfl ?_ | refine ad rfl ?_ ?_);all_goals(intro h;(try simp only [pl] at h);(try (exfalso;omega)))) | skip))));refine au ?_;exact congrArg (MV.int .i64) (by subst hr;(repeat(first | rw [if_pos (by omega)] | rw [if_neg (by omega)]));first | rfl | omega)
    | true=>
     have f1:=aj.mk (f1 (l1 rfl));rw [if_pos ⟨om,om,rfl,rfl,rfl⟩] at hr;refine bA seat Tryz.func239 109 ?_;(iterate 24 ((all_goals(refine aa ?_));(all_goals(first | (refine ah rfl aA rfl (src (c1)) rfl rfl ?_) | (refine ah rfl aA rfl (src (c2)) rfl rfl ?_) | (refine ah rfl aA rfl (src (c3)) rfl rfl ?_) | ((first | refine ag rfl rfl ?_ rfl ?_ | refine ad rfl ?_ ?_);all_goals(intro h;(try simp only [pl] at h);(try (exfalso;omega)))) | skip))));all_goals(refine au ?_;exact congrArg (MV.int .i64) (by subst hr;(repeat(first | rw [if_pos (by omega)] | rw [if_neg (by omega)]));first | rfl | omega))
 ·rw [if_neg om] at hr;clear l1 f1;refine bA seat Tryz.func239 109 ?_;(iterate 12 ((all_goals(refine aa ?_));(all_goals(first | (refine ah rfl aA rfl (src (c1)) rfl rfl ?_) | (refine ah rfl aA rfl (src (c2)) rfl rfl ?_) | (refine ah rfl aA rfl (src (c3)) rfl rfl ?_) | ((first | refine ag rfl rfl ?_ rfl ?_ | refine ad rfl ?_ ?_);all_goals(intro h;(try simp only [pl] at h);(try (exfalso;omega)))) | skip))));refine au ?_;exact congrArg (MV.int .i64) (by subst hr;(repeat(first | rw [if_pos (by omega)] | rw [if_neg (by omega)]));first | rfl | omega)
end
section
variable {G:GS}
attribute [local irreducible] ak aB aD aJ aQ vC aY aw
def kq:Nat→List UInt8→Nat→Nat→Nat×Bool
 | 0,_,_,n=>(n,true)
 | f + 1,s,i,n=>if i < s.length then(if nX s i=0 then(0,false) else kq f s (i + nX s i) (n + 1)) else(n,true)
def nY (s:List UInt8):Nat×Bool:=kq s.length s 0 0
def ur (s:List UInt8):Bool:=(nY s).2 && decide ((nY s).1≤64)
theorem C9 (s:List UInt8) (i:Nat):nX s i≤4:=by
 unfold nX
 repeat' split
 all_goals omega
theorem P9 (s:List UInt8) (hs:s.length < 500000000):aE Tryz.prog G 178 [.str s] (.tup [.int .i64 (nY s).1, .bool (nY s).2]):=by
  generalize hr:nY s=r;unfold nY at hr;obtain⟨r1,r2⟩:=r;dsimp only;refine bA seat Tryz.func178 22 ?_;refine aa ?_;refine av (Nat×Nat×Nat) (fun x=> [(5, .int .i64 x.2.1),(4, .int .i64 x.2.2),(0, .str s)]) (fun _=> []) 0 (fun x=>kq x.1 s x.2.1 x.2.2=(r1,r2)∧s.length≤x.2.1 + x.1∧x.2.1≤s.length + 4∧x.2.2 + x.1≤s.length) (fun x=>x.1) (s.length,0,0) ⟨hr,dm,dm,dm⟩ (by dsimp only;exact(vm [] [])) ?_;rintro⟨f,i,n⟩ ⟨hR,h1,h2,h3⟩;try dsimp only
  dsimp only at hR h1 h2 h3;refine aa ?_;refine ad rfl ?_ ?_ <;> intro h
  · have hi:i < s.length:=by have:=ot h;omega
    have c1:=Tq (G:=G) s i om hi;have hk:=C9 s i
    match f,hR,h1,h3 with
    | 0,hR,h1,h3=>exfalso;omega
    | f + 1,hR,h1,h3=>
    rw [kq,if_pos hi] at hR;generalize nX s i=k at *;refine aa ?_;refine dZ (c1) ?_;refine ad rfl ?_ ?_ <;> intro h
    · have Ks:k=0:=by
        have:(k:Int)=0:=by simpa using h
        omega
      rw [if_pos Ks] at hR;simp only [a₀] at hR;obtain⟨rfl,rfl⟩:=hR;refine aa ?_;refine au ?_;rfl
    · have Ks:k≠0:=by
        have: ¬ (k:Int)=0:=by simpa using h
        omega
      rw [if_neg Ks] at hR;refine aa ?_;exact⟨(f,i + k,n + 1),⟨hR,dm,dm,dm⟩,by show f < f + 1;omega,(by dsimp only;exact(vm [] []))⟩
  · have hi: ¬ i < s.length:=by have:=oF h;omega
    have:kq f s i n=(n,true):=by cases f with | zero=>rfl | succ f=>rw [kq,if_neg hi]
    rw [this] at hR;simp only [a₀] at hR;obtain⟨rfl,rfl⟩:=hR;refine aa ?_;refine au ?_;rfl
theorem Tr (s:List UInt8) (hs:s.length < 500000000):aE Tryz.prog G 120 [.str s] (.bool (ur s)):=by
 have c1:=P9 (G:=G) s hs;unfold ur;generalize nY s=r at *;obtain⟨n,ok⟩:=r;dsimp only at c1 ⊢;cases ok with
 | true=>
  refine bA seat Tryz.func120 15 ?_;refine aa ?_;refine dZ (c1) ?_;refine au ?_;exact congrArg MV.bool (decide_eq_decide.2 om)
 | false=>
  refine bA seat Tryz.func120 15 ?_;refine aa ?_;refine dZ (c1) ?_;refine au ?_;rfl
def nZ (c:UInt8):Bool:=decide (97≤c.toNat∧c.toNat≤122∨48≤c.toNat∧c.toNat≤57∨c.toNat=45)
def eD (s:List UInt8):Bool:=s.all nZ && decide (1≤s.length∧s.length≤20)
theorem AR (s:List UInt8) (hs:s.length≤140737488355328):aE Tryz.prog G 79 [.str s] (.bool (eD s)):=by
 generalize hr:eD s=r;unfold eD at hr;refine bA seat Tryz.func79 41 ?_;refine aa ?_;refine av Nat (fun i=> [(3, .int .i64 i),(0, .str s)]) (fun _=> []) 0 (fun i=>i≤s.length∧(s.take i).all nZ=true) (fun i=>s.length - i) 0 ⟨a₅ _,sm⟩ (vm [] []) ?_;rintro i ⟨hi,hp⟩;try dsimp only
 refine aa ?_;refine ad rfl ?_ ?_ <;> intro h
 ·have gS:i < s.length:=by have:=ot h;omega
  have f0:=aj.mk (rI gS);have Kn:(s.take (i + 1)).all nZ=((s.take i).all nZ && nZ (s.getD i 0)):=by
   rw [b₀ gS,c₁];simp [gS]
  have fF:nZ (s.getD i 0)=false→s.all nZ=false:=fun h=>by
   rw [← c₉ (i + 1) s,c₁,Kn,h];simp
  generalize s.getD i 0=c at *;by_cases hc:nZ c=true
  ·rw [hp,hc] at Kn;have uE:=ot hc;(iterate 6 ((all_goals(refine aa ?_));(all_goals(first | ((first | refine ag rfl rfl ?_ rfl ?_ | refine ad rfl ?_ ?_);all_goals(intro h;(try simp only [pl] at h);(try (exfalso;omega)))) | skip))));all_goals exact⟨i + 1,⟨by omega,by rw [Kn];rfl⟩,by show s.length - (i + 1) < s.length - i;omega,(by dsimp only;exact(vm [] []))⟩
  ·have zU:nZ c=false:=by simpa using hc
   rw [fF zU,b₁] at hr;subst hr;have uE:=oF zU;(iterate 6 ((all_goals(refine aa ?_));(all_goals(first | ((first | refine ag rfl rfl ?_ rfl ?_ | refine ad rfl ?_ ?_);all_goals(intro h;(try simp only [pl] at h);(try (exfalso;omega)))) | skip))));all_goals(refine au ?_;rfl)
 ·have gS:i=s.length:=by have:=oF h;omega
  subst gS;rw [c₂] at hp;rw [hp,b₄] at hr;subst hr;(iterate 3 ((all_goals(refine aa ?_));(all_goals(first | ((first | refine ag rfl rfl ?_ rfl ?_ | refine ad rfl ?_ ?_);all_goals(intro h;(try simp only [pl] at h);(try (exfalso;omega)))) | skip))));all_goals(refine au ?_;exact congrArg MV.bool (by first | exact decide_eq_decide.2 (by omega) | exact(decide_eq_false (by omega)).symm))
def wV:List mF→Nat
 | [] =>0
 | x :: r=>if eD x.to_=false then 10 else if x.amt=0 then 12 else wV r
def ef (t:jX):Nat:=if eD t.sender=false then 10 else if t.gas=0 then 15 else if ur t.memo=false then 11 else if t.trs.length=0∨16 < t.trs.length then 3 else wV t.trs
theorem zg (t:jX) (ht:jz t):aE Tryz.prog G 71 [pR t] (.int .i64 (ef t)):=by
 obtain⟨sender,seq,gas,fee,memo,trs⟩:=t;obtain⟨h1,h2,h3,h4,h5,h6,h7⟩:=ht;dsimp only at h1 h2 h3 h4 h5 h6 h7;have c1:=AR (G:=G) sender om;have c2:=Tr (G:=G) memo om;generalize hr:ef _=r;unfold ef at hr;unfold pR;dsimp only at hr ⊢;generalize eD sender=b1 at *;generalize ur memo=b2 at *;cases b1 with
 | false=>
  rw [if_pos rfl] at hr;subst hr;refine bA seat Tryz.func71 45 ?_;(iterate 2 ((all_goals(refine aa ?_));(all_goals(first | (refine ah rfl aA rfl (src (c1)) rfl rfl ?_) | ((first | refine ag rfl rfl ?_ rfl ?_ | refine ad rfl ?_ ?_);all_goals(intro h;(try simp only [pl] at h);(try (exfalso;omega)))) | skip))));refine au ?_;rfl
 | true=>
 rw [if_neg sm] at hr;by_cases hg:gas=0
 ·rw [if_pos hg] at hr;subst hr;refine bA seat Tryz.func71 45 ?_;(iterate 3 ((all_goals(refine aa ?_));(all_goals(first | (refine ah rfl aA rfl (src (c1)) rfl rfl ?_) | ((first | refine ag rfl rfl ?_ rfl ?_ | refine ad rfl ?_ ?_);all_goals(intro h;(try simp only [pl] at h);(try (exfalso;omega)))) | skip))));refine au ?_;rfl
 rw [if_neg hg] at hr;cases b2 with
 | false=>
  rw [if_pos rfl] at hr;subst hr;refine bA seat Tryz.func71 45 ?_;(iterate 4 ((all_goals(refine aa ?_));(all_goals(first | (refine ah rfl aA rfl (src (c1)) rfl rfl ?_) | (refine ah rfl aA rfl (src (c2)) rfl rfl ?_) | ((first | refine ag rfl rfl ?_ rfl ?_ | refine ad rfl ?_ ?_);all_goals(intro h;(try simp only [pl] at h);(try (exfalso;omega)))) | skip))));refine au ?_;rfl
 | true=>
 rw [if_neg sm] at hr;by_cases hl:trs.length=0∨16 < trs.length
 ·rw [if_pos hl] at hr;subst hr;refine bA seat Tryz.func71 45 ?_;(iterate 6 ((all_goals(refine aa ?_));(all_goals(first | (refine ah rfl aA rfl (src (c1)) rfl rfl ?_) | (refine ah rfl aA rfl (src (c2)) rfl rfl ?_) | ((first | refine ag rfl rfl ?_ rfl ?_ | refine ad rfl ?_ ?_);all_goals(intro h;(try simp only [pl] at h);(try (exfalso;omega)))) | skip))));all_goals(refine au ?_;rfl)
 rw [if_neg hl] at hr;refine bA seat Tryz.func71 45 ?_;(iterate 6 ((all_goals(refine aa ?_));(all_goals(first | (refine ah rfl aA rfl (src (c1)) rfl rfl ?_) | (refine ah rfl aA rfl (src (c2)) rfl rfl ?_) | ((first | refine ag rfl rfl ?_ rfl ?_ | refine ad rfl ?_ ?_);all_goals(intro h;(try simp only [pl] at h);(try (exfalso;omega)))) | skip))));refine av Nat (fun k=> [(33, .int .i64 k),(32, .int .i64 trs.length),(31, .sl trs.length (trs.map mU))]) (fun _=> []) 0 (fun k=>k≤trs.length∧wV (trs.drop k)=r) (fun k=>trs.length - k) 0 ⟨a₅ _,by rw [a₇];exact hr⟩ (vm [] []) ?_;rintro k ⟨hk,hR⟩;try dsimp only
 refine aa ?_;refine ad rfl ?_ ?_ <;> intro h
 ·have aC:k < trs.length:=by have:=ot h;omega
  have hx:=h7 _ (b₂ aC);have aH:=aj.mk (mH aC);rw [a₄ aC,wV] at hR;generalize trs[k] =x at *;have d1:=AR (G:=G) x.to_ (by have:=hx.1;omega);generalize eD x.to_=b at *;cases b with
  | false=>
   rw [if_pos rfl] at hR;subst hR;(iterate 3 ((all_goals(refine aa ?_));(all_goals(first | (refine ah rfl aA rfl (src (d1)) rfl rfl ?_) | ((first | refine ag rfl rfl ?_ rfl ?_ | refine ad rfl ?_ ?_);all_goals(intro h;(try simp only [pl] at h);(try (exfalso;omega)))) | skip))));refine au ?_;rfl
  | true=>
   rw [if_neg sm] at hR;by_cases hz:x.amt=0
   ·rw [if_pos hz] at hR;subst hR;(iterate 4 ((all_goals(refine aa ?_));(all_goals(first | (refine ah rfl aA rfl (src (d1)) rfl rfl ?_) | ((first | refine ag rfl rfl ?_ rfl ?_ | refine ad rfl ?_ ?_);all_goals(intro h;(try simp only [pl] at h);(try (exfalso;omega)))) | skip))));refine au ?_;rfl
   ·rw [if_neg hz] at hR;(iterate 4 ((all_goals(refine aa ?_));(all_goals(first | (refine ah rfl aA rfl (src (d1)) rfl rfl ?_) | ((first | refine ag rfl rfl ?_ rfl ?_ | refine ad rfl ?_ ?_);all_goals(intro h;(try simp only [pl] at h);(try (exfalso;omega)))) | skip))));exact⟨k + 1,⟨om,hR⟩,by show trs.length - (k + 1) < trs.length - k;omega,(by dsimp only;exact(vm [] []))⟩
 ·have aC:k=trs.length:=by have:=oF h;omega
  subst aC;rw [b₃,wV] at hR;subst hR;refine aa ?_;refine au ?_;rfl
theorem va (s:List UInt8) (hs:s.length≤140737488355328):aE Tryz.prog G 73 [.str s] (.bool (eD s)):=by
 generalize hr:eD s=r;unfold eD at hr;refine bA seat Tryz.func73 40 ?_;refine aa ?_;refine av Nat (fun i=> [(7, .int .i64 i),(6, .int .i64 s.length),(0, .str s)]) (fun _=> []) 0 (fun i=>i≤s.length∧(s.take i).all nZ=true) (fun i=>s.length - i) 0 ⟨a₅ _,sm⟩ (vm [] []) ?_;rintro i ⟨hi,hp⟩;try dsimp only
 refine aa ?_;refine ad rfl ?_ ?_ <;> intro h
 ·have gS:i < s.length:=by have:=ot h;omega
  have f0:=aj.mk (rI gS);have Kn:(s.take (i + 1)).all nZ=((s.take i).all nZ && nZ (s.getD i 0)):=by
   rw [b₀ gS,c₁];simp [gS]
  have fF:nZ (s.getD i 0)=false→s.all nZ=false:=fun h=>by
   rw [← c₉ (i + 1) s,c₁,Kn,h];simp
  generalize s.getD i 0=c at *;by_cases hc:nZ c=true
  ·rw [hp,hc] at Kn;have uE:=ot hc;(iterate 8 ((all_goals(refine aa ?_));(all_goals(first | ((first | refine ag rfl rfl ?_ rfl ?_ | refine ad rfl ?_ ?_);all_goals(intro h;(try simp only [pl] at h);(try (exfalso;omega)))) | skip))));all_goals exact⟨i + 1,⟨by omega,by rw [Kn];rfl⟩,by show s.length - (i + 1) < s.length - i;omega,(by dsimp only;exact(vm [] []))⟩
  ·have zU:nZ c=false:=by simpa using hc
   rw [fF zU,b₁] at hr;subst hr;have uE:=oF zU;(iterate 8 ((all_goals(refine aa ?_));(all_goals(first | ((first | refine ag rfl rfl ?_ rfl ?_ | refine ad rfl ?_ ?_);all_goals(intro h;(try simp only [pl] at h);(try (exfalso;omega)))) | skip))));all_goals(refine au ?_;rfl)
 ·have gS:i=s.length:=by have:=oF h;omega
  subst gS;rw [c₂] at hp;rw [hp,b₄] at hr;subst hr;(iterate 4 ((all_goals(refine aa ?_));(all_goals(first | ((first | refine ag rfl rfl ?_ rfl ?_ | refine ad rfl ?_ ?_);all_goals(intro h;(try simp only [pl] at h);(try (exfalso;omega)))) | skip))));all_goals(refine au ?_;exact congrArg MV.bool (by first | exact decide_eq_decide.2 (by omega) | exact(decide_eq_false (by omega)).symm))
theorem Hf (b:List UInt8) (hb:b.length < 4000000000):aE Tryz.prog G 247 [.sl b.length (u8s b)] (pN (readS b 0 0)):=by
  unfold pN;generalize hr:readS b 0 0=r at *;obtain⟨r1,r2,r3⟩:=r;dsimp only;refine bA seat Tryz.func247 52 ?_;refine aa ?_;refine av (Nat×Nat) (fun x=> [(0, .sl b.length (u8s b)),(2, .int .u64 x.2),(5, .int .i64 x.1)]) (fun _=> []) 0 (fun x=>x.1≤9∧x.1≤b.length∧x.2 < 128 ^ x.1∧readS (b.drop x.1) x.1 x.2=(r1,r2,r3)) (fun x=>b.length - x.1) (0,0) ⟨dm,dm,dm,by dsimp only;rw [a₇];exact hr⟩ (by dsimp only;exact(vm [] [])) ?_;rintro⟨i,n⟩ ⟨hi,hib,hn,hR⟩;try dsimp only
  dsimp only at hi hib hn hR;refine aa ?_;refine ad rfl ?_ ?_ <;> intro h
  · have gS:i=b.length:=by have:=ot h;omega
    rw [c₈ om,readS] at hR;simp only [a₀] at hR;obtain⟨rfl,rfl,rfl⟩:=hR;refine aa ?_;refine au ?_;rfl
  · have gS:i < b.length:=by have:=oF h;omega
    have aH:=Fm gS;rw [a₄ gS,readS] at hR;generalize b[i] =x at *;have X2:=x.toNat_lt;refine aa ?_;refine ag rfl rfl ?_ rfl ?_ <;> intro h
    · have h9:i=9:=by
        have:(i:Int)=9:=by simpa using h
        omega
      (have dh:=aj.mk (aH);refine aa ?_);refine ad rfl ?_ ?_ <;> intro h
      · have hx:=ot h;rw [if_pos om] at hR;simp only [a₀] at hR;obtain⟨rfl,rfl,rfl⟩:=hR;refine aa ?_;refine au ?_;rfl
      · have hx:=oF h;rw [if_neg om] at hR;refine aa ?_;refine ag rfl rfl ?_ rfl ?_ <;> intro h
        · have h0:=ot h;(have dh:=aj.mk (aH);refine aa ?_);refine ad rfl ?_ ?_ <;> intro h
          · have hx:x.toNat=0:=by simpa using h
            rw [if_pos om] at hR;simp only [a₀] at hR;obtain⟨rfl,rfl,rfl⟩:=hR;refine aa ?_;refine au ?_;rfl
          · have hx:x.toNat≠0:=by simpa using h
            rw [if_neg om] at hR;have hv:i≤8∧x.toNat % 128 < 128∨i=9∧x.toNat % 128≤1:=om;(have dh:=aX.mk (nP x);have dh:=aX.mk (CX hv);have dh:=aX.mk (Sf hn hv);have dh:=aj.mk (aH);refine aa ?_);refine ad rfl ?_ ?_ <;> intro h
            · have hx:=ot h;rw [if_pos om] at hR;simp only [a₀] at hR;obtain⟨rfl,rfl,rfl⟩:=hR;refine aa ?_;refine au ?_;rw [b₉ (show x.toNat < 128 by omega)];rfl
            · have hx:=oF h;rw [if_neg om] at hR;refine aa ?_;refine⟨(i + 1,n + x.toNat % 128 * 128 ^ i),⟨dm,dm,?_,?_⟩,by show b.length - (i + 1) < b.length - i;omega,(by dsimp only;exact(vm [] []))⟩
              · have h3:x.toNat % 128 * 128 ^ i≤127 * 128 ^ i:=a₆ _ om;dsimp only;rw [c₄];omega
              · dsimp only;rw [show x.toNat % 128=x.toNat - 128 by omega];exact hR
        · have h0: ¬ (0:Int) < i:=by simpa using h
          rw [if_neg om] at hR;have hv:i≤8∧x.toNat % 128 < 128∨i=9∧x.toNat % 128≤1:=om;(have dh:=aX.mk (nP x);have dh:=aX.mk (CX hv);have dh:=aX.mk (Sf hn hv);have dh:=aj.mk (aH);refine aa ?_);refine ad rfl ?_ ?_ <;> intro h
          · have hx:=ot h;rw [if_pos om] at hR;simp only [a₀] at hR;obtain⟨rfl,rfl,rfl⟩:=hR;refine aa ?_;refine au ?_;rw [b₉ (show x.toNat < 128 by omega)];rfl
          · have hx:=oF h;rw [if_neg om] at hR;refine aa ?_;refine⟨(i + 1,n + x.toNat % 128 * 128 ^ i),⟨dm,dm,?_,?_⟩,by show b.length - (i + 1) < b.length - i;omega,(by dsimp only;exact(vm [] []))⟩
            · have h3:x.toNat % 128 * 128 ^ i≤127 * 128 ^ i:=a₆ _ om;dsimp only;rw [c₄];omega
            · dsimp only;rw [show x.toNat % 128=x.toNat - 128 by omega];exact hR
    · have h9:i≠9:=by
        have: ¬ (i:Int)=9:=by simpa using h
        omega
      rw [if_neg om] at hR;refine aa ?_;refine ag rfl rfl ?_ rfl ?_ <;> intro h
      · have h0:=ot h;(have dh:=aj.mk (aH);refine aa ?_);refine ad rfl ?_ ?_ <;> intro h
        · have hx:x.toNat=0:=by simpa using h
          rw [if_pos om] at hR;simp only [a₀] at hR;obtain⟨rfl,rfl,rfl⟩:=hR;refine aa ?_;refine au ?_;rfl
        · have hx:x.toNat≠0:=by simpa using h
          rw [if_neg om] at hR;have hv:i≤8∧x.toNat % 128 < 128∨i=9∧x.toNat % 128≤1:=om;(have dh:=aX.mk (nP x);have dh:=aX.mk (CX hv);have dh:=aX.mk (Sf hn hv);have dh:=aj.mk (aH);refine aa ?_);refine ad rfl ?_ ?_ <;> intro h
          · have hx:=ot h;rw [if_pos om] at hR;simp only [a₀] at hR;obtain⟨rfl,rfl,rfl⟩:=hR;refine aa ?_;refine au ?_;rw [b₉ (show x.toNat < 128 by omega)];rfl
          · have hx:=oF h;rw [if_neg om] at hR;refine aa ?_;refine⟨(i + 1,n + x.toNat % 128 * 128 ^ i),⟨dm,dm,?_,?_⟩,by show b.length - (i + 1) < b.length - i;omega,(by dsimp only;exact(vm [] []))⟩
            · have h3:x.toNat % 128 * 128 ^ i≤127 * 128 ^ i:=a₆ _ om;dsimp only;rw [c₄];omega
            · dsimp only;rw [show x.toNat % 128=x.toNat - 128 by omega];exact hR
      · have h0: ¬ (0:Int) < i:=by simpa using h
        rw [if_neg om] at hR;have hv:i≤8∧x.toNat % 128 < 128∨i=9∧x.toNat % 128≤1:=om;(have dh:=aX.mk (nP x);have dh:=aX.mk (CX hv);have dh:=aX.mk (Sf hn hv);have dh:=aj.mk (aH);refine aa ?_);refine ad rfl ?_ ?_ <;> intro h
        · have hx:=ot h;rw [if_pos om] at hR;simp only [a₀] at hR;obtain⟨rfl,rfl,rfl⟩:=hR;refine aa ?_;refine au ?_;rw [b₉ (show x.toNat < 128 by omega)];rfl
        · have hx:=oF h;rw [if_neg om] at hR;refine aa ?_;refine⟨(i + 1,n + x.toNat % 128 * 128 ^ i),⟨dm,dm,?_,?_⟩,by show b.length - (i + 1) < b.length - i;omega,(by dsimp only;exact(vm [] []))⟩
          · have h3:x.toNat % 128 * 128 ^ i≤127 * 128 ^ i:=a₆ _ om;dsimp only;rw [c₄];omega
          · dsimp only;rw [show x.toNat % 128=x.toNat - 128 by omega];exact hR
theorem I8 {b:List UInt8} (hb:b.length < 4000000000) {n:Nat} {r:Nat×Nat×Nat} (h:readS (b.drop n) 0 0=r):aE Tryz.prog G 247 [.sl (b.length - n) (cutL (u8s b) n b.length)] (pN r):=by
 have:=Hf (G:=G) (b.drop n) (by rw [a₂];omega);rw [h,a₂] at this;rw [cut_u8,a₈ (by rw [a₂];omega)];exact this
theorem ZJ {m:Nat} (hm:m < 18446744073709551616):IntKind.u64.wrap ((BitVec.ofInt IntKind.u64.bits (m:Int) &&& BitVec.ofInt IntKind.u64.bits (7:Int)).toNat:Int)=((m % 8:Nat):Int):=by
 have e:=Nat.and_two_pow_sub_one_eq_mod m 3;rw [BitVec.toNat_and,fQ _ _ (show m < 2 ^ IntKind.u64.bits from hm),show (7:Int)=((7:Nat):Int) by rfl,fQ _ _ (show 7 < 2 ^ IntKind.u64.bits by decide),show (7:Nat)=2 ^ 3 - 1 by rfl,e,wu64];omega
theorem ZK (m:Nat):((m:Int).fdiv (2 ^ (min (3:Int).toNat IntKind.u64.bits)))=((m / 8:Nat):Int):=by
 rw [show min (3:Int).toNat IntKind.u64.bits=3 by rfl,Int.fdiv_eq_ediv_of_nonneg _ (by decide)];exact(Int.natCast_ediv m 8).symm
theorem Ts (b:List UInt8) (hb:b.length < 1000000000):aT Tryz.prog G 190 [.sl b.length (u8s b)] [] 0 (.tup [cj (gj b).1, .int .i64 (gj b).2.1, .int .i64 (gj b).2.2]) [] 0:=by
  have c1:=Hf (G:=G) b om;have By:=my b 0 0 om om;generalize hr:gj b=r at *;obtain⟨f,m,e⟩:=r;have hR:=hr;unfold gj at hR;generalize readS b 0 0=t at *;obtain⟨T,n,e1⟩:=t;dsimp only at hR By;unfold pN at c1;unfold cj;dsimp only at c1;dsimp only;refine dK seat Tryz.func190 85 ?_;refine aa ?_;refine dZ (c1) ?_;refine ad rfl ?_ ?_ <;> intro h
  · have xS:e1≠0:=by intro h0;subst h0;cases h
    rw [if_pos xS] at hR;simp only [a₀] at hR;obtain⟨rfl,rfl,rfl⟩:=hR;refine aa ?_;refine au ?_;exact en [_,_,_]
  have xS:e1=0:=by
    have:(e1:Int)=0:=by simpa using h
    omega
  subst xS;have hT:=(By rfl).2.2;rw [if_neg sm] at hR;have sF:=ZJ hT;have hdiv:=ZK T;have Gl:=my (b.drop n) 0 0 om om;generalize xY:readS (b.drop n) 0 0=t2 at *;obtain⟨v,k,e2⟩:=t2;have c2:=I8 (G:=G) (b:=b) om xY;unfold pN at c2;dsimp only at hR c2 Gl;generalize hD:T / 8=D at *;generalize hK:T % 8=K at *;(have dh:=aX.mk (sF);have dh:=aX.mk (hdiv);refine aa ?_);refine ag rfl rfl ?_ rfl ?_ <;> intro h
  · have RY: ¬ (D:Int) < 1:=by simpa using h
    refine aa ?_;refine ag rfl rfl ?_ rfl ?_ <;> intro h
    · have Z7: ¬ (536870911:Int) < D:=by simpa using h
      refine aa ?_;refine ag rfl rfl ?_ rfl ?_ <;> intro h
      · have X0:K≠0:=by
          have: ¬ (K:Int)=0:=by simpa using h
          omega
        refine aa ?_;refine ad rfl ?_ ?_ <;> intro h
        · have Eo:K≠2:=by
            have: ¬ (K:Int)=2:=by simpa using h
            omega
          rw [if_pos om] at hR;simp only [a₀] at hR;obtain⟨rfl,rfl,rfl⟩:=hR;refine aa ?_;refine au ?_;exact en [_,_,_]
        have Eo:K=2:=by
          have:(K:Int)=2:=by simpa using h
          omega
        subst Eo;rw [if_neg om] at hR;have N7:n≤b.length:=by have:=By rfl;omega
        (have dh:=aj.mk (gH (κ:= .i64) N7);have dh:=bH.mk (bX b);refine aa ?_);refine dZ (c2) ?_;refine ad rfl ?_ ?_ <;> intro h
        · have xU:e2≠0:=by intro h0;subst h0;cases h
          rw [if_pos xU] at hR;simp only [a₀] at hR;obtain⟨rfl,rfl,rfl⟩:=hR;refine aa ?_;refine au ?_;exact en [_,_,_]
        have xU:e2=0:=by
          have:(e2:Int)=0:=by simpa using h
          omega
        subst xU;have hk:=Gl rfl;rw [a₂] at hk;rw [if_neg sm] at hR;rw [if_neg om] at hR;have hnk:n + k≤b.length:=om;have H3:dN b.length (some (.int .i64 ((n:Int) + k))) none=some (n + k,b.length):=by
          rw [show (n:Int) + k=((n + k:Nat):Int) by omega];exact gH hnk
        (have dh:=aj.mk (H3);have dh:=bH.mk (bX b);refine aa ?_);refine ad rfl ?_ ?_ <;> intro h
        · have hv:=ot h;rw [if_pos om] at hR;simp only [a₀] at hR;obtain⟨rfl,rfl,rfl⟩:=hR;refine aa ?_;refine au ?_;exact en [_,_,_]
        have hv:=oF h;rw [if_neg om] at hR;simp only [a₀] at hR;obtain⟨rfl,rfl,rfl⟩:=hR;have H6:dN (b.length - (n + k)) none (some (.int .u64 (v:Int)))=some (0,v):=kh om;have hl:((b.drop (n + k)).take v).length=v:=by rw [b₈,a₂];omega
        (have dh:=aj.mk (H6);have dh:=bH.mk (rC b (n + k) b.length);refine aa ?_);refine aO rfl rfl (by intro R hR;refine da hR ?_;refine b₇ ((by(try dsimp only);rw [cut_u8,cut_u8];exact bX _)) ?_;refine b₇ (rA (by kernel_rfl) (by dsimp only;omega)) ?_;exact hR) rfl ?_;refine aa ?_;refine au ?_;rw [show ((n + k + v:Nat):Int)=(n:Int) + k + v by omega];dsimp only;rw [hl];refine⟨[_,_,_],[],[(69,v)],rfl,rfl,?_,rfl,⟨?_,?_,?_,trivial⟩,?_⟩
        · refine⟨?_,trivial⟩
          show v≤List.length _
          dsimp only;rw [cut_u8,cut_u8];simp only [u8s,b₅,b₈,a₂];omega
        · refine .inr ⟨_,rfl,⟨rfl,rfl⟩,⟨rfl,rfl⟩,⟨rfl,rfl⟩, .inr ⟨rfl,rfl,rfl,?_,?_⟩,trivial⟩
          · exact Nat.le_of_eq sm
          · dsimp only;rw [cut_u8,cut_u8];simp only [cutL,u8s];simp only [Nat.sub_zero,c₅,a₇];rw [a₈ (l:=b.drop (n + k)) sm,a₈ (by rw [b₅,b₈];omega)]
        · exact rv
        · exact rv
        · exact mm
      · have X0:K=0:=by
          have:(K:Int)=0:=by simpa using h
          omega
        subst X0;rw [if_neg om] at hR;have N7:n≤b.length:=by have:=By rfl;omega
        (have dh:=aj.mk (gH (κ:= .i64) N7);have dh:=bH.mk (bX b);refine aa ?_);refine dZ (c2) ?_;refine ad rfl ?_ ?_ <;> intro h
        · have xU:e2≠0:=by intro h0;subst h0;cases h
          rw [if_pos xU] at hR;simp only [a₀] at hR;obtain⟨rfl,rfl,rfl⟩:=hR;refine aa ?_;refine au ?_;exact en [_,_,_]
        have xU:e2=0:=by
          have:(e2:Int)=0:=by simpa using h
          omega
        subst xU;have hk:=Gl rfl;rw [a₂] at hk;rw [if_neg sm] at hR;rw [if_pos rfl] at hR;simp only [a₀] at hR;obtain⟨rfl,rfl,rfl⟩:=hR;refine aa ?_;refine au ?_;exact en [_,_,_]
    · have Z7:(536870911:Int) < D:=by simpa using h
      rw [if_pos om] at hR;refine aa ?_;simp only [a₀] at hR;obtain⟨rfl,rfl,rfl⟩:=hR;refine aa ?_;refine au ?_;exact en [_,_,_]
  · have RY:(D:Int) < 1:=by simpa using h
    rw [if_pos om] at hR;refine aa ?_;simp only [a₀] at hR;obtain⟨rfl,rfl,rfl⟩:=hR;refine aa ?_;refine au ?_;exact en [_,_,_]
theorem LI {b:List UInt8} (hb:b.length < 1000000000) {n:Nat}:aT Tryz.prog G 190 [.sl (b.length - n) (cutL (u8s b) n b.length)] [] 0 (.tup [cj (gj (b.drop n)).1, .int .i64 (gj (b.drop n)).2.1, .int .i64 (gj (b.drop n)).2.2]) [] 0:=by
 have:=Ts (G:=G) (b.drop n) (by rw [a₂];omega);rw [a₂] at this;rw [cut_u8,a₈ (by rw [a₂];omega)];exact this
theorem zh (b:List UInt8) (hb:b.length < 1000000000):aT Tryz.prog G 128 [.sl b.length (u8s b)] [] 0 (.tup [.sl (aF b).1.length ((aF b).1.map cj), .int .i64 (aF b).2.1, .int .i64 (aF b).2.2]) [] 0:=by
  generalize hr:aF b=r;obtain⟨l,Yv,e1⟩:=r;dsimp only;refine dK seat Tryz.func128 36 ?_;refine aa ?_;refine av (Nat×List fq) (fun x=> [(3, .int .i64 x.1),(2, .ms 0 4 0 x.2.length),(0, .sl b.length (u8s b))]) (fun x=> [(0,⟨183,4,true,0,x.2.map cj⟩)]) 1 (fun x=>x.1≤b.length∧x.2.length≤1024∧gA (1024 - x.2.length) (b.drop x.1) x.1 x.2=(l,Yv,e1)) (fun x=>b.length - x.1) (0,[]) ⟨a₅ _,a₅ _,by dsimp only;rw [a₇];exact hr⟩ (by dsimp only;exact(vm [] [])) ?_;rintro⟨i,acc⟩ ⟨hi,ha,hG⟩;try dsimp only
  dsimp only at hi ha hG;refine aa ?_;refine ad rfl ?_ ?_ <;> intro h
  · have gS:i < b.length:=by have:=ot h;omega
    have gf:=Hc gS;refine aa ?_;refine ad rfl ?_ ?_ <;> intro h
    · have h4:acc.length=1024:=by have:=eq_of_beq h;omega
      rw [h4,Nat.sub_self,mz gf] at hG;simp only [a₀] at hG;obtain⟨rfl,rfl,rfl⟩:=hG;refine aa ?_;exact en [_,_,_]
    · have h4:acc.length < 1024:=by
        have: ¬ (acc.length:Int)=1024:=by simpa using h
        omega
      have c1:=LI (G:=G) hb (n:=i);have eG:=Fk (b:=b.drop i);rw [show 1024 - acc.length=(1023 - acc.length) + 1 by omega,mA gf] at hG;generalize gj (b.drop i)=o at *;obtain⟨f,m,e⟩:=o;dsimp only at c1 eG hG;(have dh:=aj.mk (gH (κ:= .i64) hi);have dh:=bH.mk (bX b);refine aa ?_);refine jn (c1) ?_;refine ad rfl ?_ ?_ <;> intro h
      · have he:e≠0:=by intro h0;subst h0;cases h
        rw [if_pos he] at hG;simp only [a₀] at hG;obtain⟨rfl,rfl,rfl⟩:=hG;refine aa ?_;exact en [_,_,_]
      · have he:e=0:=by
          have:(e:Int)=0:=by simpa using h
          omega
        subst he;rw [if_neg sm,List.drop_drop] at hG;have eG:=eG rfl;rw [a₂] at eG;refine aa ?_;refine aO rfl rfl (by intro R hR;refine da hR ?_;(refine b₇ (c₇ _) ?_;refine⟨_,rfl,?_⟩;refine b₇ ⟨sm,ai (by kernel_rfl) pf⟩ ?_;refine⟨(acc ++ [f]).map cj,sv (by simp;rfl),acc.length + 1,sv pf,?_⟩);exact hR) rfl ?_;refine aa ?_;refine⟨(i + m,acc ++ [f]),⟨dm,by dsimp only;rw [a₁,a₃];omega,?_⟩,by show b.length - (i + m) < b.length - i;omega,?_⟩
        · dsimp only;rw [a₁,a₃,show 1024 - (acc.length + 1)=1023 - acc.length by omega];exact hG
        · dsimp only;rw [a₁,a₃];exact(vm [(0,_)] [])
  · have gS:b.length≤i:=by have:=oF h;omega
    rw [c₈ gS,nQ] at hG;simp only [a₀] at hG;obtain⟨rfl,rfl,rfl⟩:=hG;refine aa ?_;refine⟨[_,_,_],[],[(0,acc.length)],rfl,rfl,?_,rfl,⟨?_,?_,?_,trivial⟩,?_⟩
    · exact⟨by show acc.length≤(acc.map cj).length;simp,trivial⟩
    · exact .inr ⟨rfl,rfl,rfl,Nat.le_of_eq (c₅ _),bc cj acc⟩
    · exact rv
    · exact rv
    · exact mm
end
end Go.Proofs.YtohikcplmbkmeaaGreatDoor
namespace Go.Proofs
open Go.Shelf
def Tryz.lays134_ren:Go.Shelf.Ren:=⟨fun | 134=>249 | 129=>189 | n=>n,fun | 53=>23 | 3=>3 | 4=>4 | 46=>190 | 5=>5 | 9=>9 | n=>n,fun | n=>n⟩
theorem Tryz.lays134:Go.Proofs.Lays.n134 Tryz.prog Tryz.lays134_ren:={
 mixed:=by kernel_rfl
 f129:=Tryz.func189.trans (congrArg some (by kernel_rfl))
 f134:=Tryz.func249.trans (congrArg some (by kernel_rfl))
 t3:=Tryz.underlying3
 a3:=Tryz.isAgg3
 z3:=Tryz.sizeOf3
 v3:=Tryz.zeroValue3
 t4:=Tryz.underlying4
 a4:=Tryz.isAgg4
 z4:=Tryz.sizeOf4
 v4:=Tryz.zeroValue4
 t5:=Tryz.underlying5
 a5:=Tryz.isAgg5
 z5:=Tryz.sizeOf5
 v5:=Tryz.zeroValue5
 t9:=Tryz.underlying9
 a9:=Tryz.isAgg9
 z9:=Tryz.sizeOf9
 v9:=Tryz.zeroValue9
 t46:=Tryz.underlying190
 a46:=Tryz.isAgg190
 z46:=Tryz.sizeOf190
 v46:=Tryz.zeroValue190
 t53:=Tryz.underlying23
 a53:=Tryz.isAgg23
 z53:=Tryz.sizeOf23
 v53:=Tryz.zeroValue23 }
theorem Tryz.bits_LeadingZeros64 (x:Int) (w:World) (h0:0≤x) (h1:x≤18446744073709551615) :
  Calls Tryz.prog 249 #[.int .u64 x] w fun e w'=>e= .returned (.int .i64 (64 - (Lib.bitLen x.toNat:Int)))∧w'=w:=Any.bits_LeadingZeros64 Tryz.lays134 x w h0 h1
def Tryz.lays197_ren:Go.Shelf.Ren:=⟨fun | 197=>248 | 260=>272 | n=>n,fun | 9=>9 | 21=>21 | 3=>3 | 4=>4 | 5=>5 | 105=>305 | 119=>335 | 0=>0 | 46=>190 | 139=>338 | 138=>337 | n=>n,fun | 3=>2 | 4=>3 | n=>n⟩
theorem Tryz.lays197:Go.Proofs.Lays.n197 Tryz.prog Tryz.lays197_ren:={
 mixed:=by kernel_rfl
 f197:=Tryz.func248.trans (congrArg some (by kernel_rfl))
 f260:=Tryz.func272.trans (congrArg some (by kernel_rfl))
 t0:=Tryz.underlying0
 a0:=Tryz.isAgg0
 z0:=Tryz.sizeOf0
 v0:=Tryz.zeroValue0
 t3:=Tryz.underlying3
 a3:=Tryz.isAgg3
 z3:=Tryz.sizeOf3
 v3:=Tryz.zeroValue3
 t4:=Tryz.underlying4
 a4:=Tryz.isAgg4
 z4:=Tryz.sizeOf4
 v4:=Tryz.zeroValue4
 t5:=Tryz.underlying5
 a5:=Tryz.isAgg5
 z5:=Tryz.sizeOf5
 v5:=Tryz.zeroValue5
 t9:=Tryz.underlying9
 a9:=Tryz.isAgg9
 z9:=Tryz.sizeOf9
 v9:=Tryz.zeroValue9
 t21:=Tryz.underlying21
 a21:=Tryz.isAgg21
 z21:=Tryz.sizeOf21
 v21:=Tryz.zeroValue21
 t46:=Tryz.underlying190
 a46:=Tryz.isAgg190
 z46:=Tryz.sizeOf190
 v46:=Tryz.zeroValue190
 t105:=Tryz.underlying305
 a105:=Tryz.isAgg305
 z105:=Tryz.sizeOf305
 v105:=Tryz.zeroValue305
 t119:=Tryz.underlying335
 a119:=Tryz.isAgg335
 z119:=Tryz.sizeOf335
 t138:=Tryz.underlying337
 a138:=Tryz.isAgg337
 z138:=Tryz.sizeOf337
 v138:=Tryz.zeroValue337
 t139:=Tryz.underlying338
 a139:=Tryz.isAgg338
 z139:=Tryz.sizeOf338
 v139:=Tryz.zeroValue338
 g3:=by kernel_rfl
 g4:=by kernel_rfl }
open Go.RowKit Go.Lib in
theorem Tryz.utf8_DecodeRuneInString (s:ByteArray) (w:World) (hT:Lib.Utf8Tabs 2 3 w) :
  Calls Tryz.prog 248 #[.string s] w fun e w'=>e= .returned (.tuple #[.int .i32 (Lib.decodeGo s).1, .int .i64 (Lib.decodeGo s).2])∧Below w.heap.size w w':=Any.utf8_DecodeRuneInString Tryz.lays197 s w hT
end Go.Proofs
namespace Go.Proofs.YtohikcplmbkmeaaGreatDoor
open Go.RowKit
section
def LU (g:Nat):Prop:=g=2∨g=3
def UtfOK (w:World):Prop:=Lib.Utf8Tabs 2 3 w
theorem UtfOK.same {w w':World} (h:UtfOK w) (hs: ∀g,LU g→w'.heap[g]? =w.heap[g]?):UtfOK w':=
 ⟨fun c hc=>(iL (hs _ (.inl rfl))).trans (h.1 c hc),fun i hi=>⟨(iL (hs _ (.inr rfl))).trans (h.2 i hi).1,(iL (hs _ (.inr rfl))).trans (h.2 i hi).2⟩⟩
theorem UtfOK.lt {w:World} (h:UtfOK w) {g:Nat} (hg:LU g):g < w.heap.size:=by
 rcases hg with rfl | rfl
 ·exact World.block_lt_of_cell? _ _ (h.1 0 om)
 ·exact World.block_lt_of_cell? _ _ (h.2 0 om).1
def GU:GS:=⟨UtfOK,LU,fun _ _ h hg=>h.lt hg,fun _ _ _ h hx hs=>h.same fun _ hg=>hs.block _ (h.lt hg) (fun e=>hx _ e hg)⟩
theorem Qa (s:List UInt8):aE Tryz.prog GU 248 [.str s] (.tup [.int .i32 (Lib.decodeGo ⟨s.toArray⟩).1, .int .i64 (Lib.decodeGo ⟨s.toArray⟩).2]):=by
 intro w P dY hg hP dj;cases dj with
 | cons h t=>
  cases t with
  | nil=>
   obtain rfl:=h.str_;refine(Tryz.utf8_DecodeRuneInString ⟨s.toArray⟩ w hg).mono ?_;rintro e w' ⟨rfl,hb⟩;refine⟨_,rfl, .tup [.int .i32 (Lib.decodeGo ⟨s.toArray⟩).1, .int .i64 (Lib.decodeGo ⟨s.toArray⟩).2] rfl fun j m u hm hu=>?_,hb⟩
   match j with
   | 0=>simp at hm hu;subst hm hu;exact⟨_, .int,rfl⟩
   | 1=>simp at hm hu;subst hm hu;exact⟨_, .int,rfl⟩
   | j + 2=>simp at hm
def iD (n b0 b1 b2 b3:Nat):Nat:=
 if b0 < 128 then 1 else
 if 194≤b0∧b0 < 224∧(1 < n∧128≤b1∧b1 < 192) then 2 else
 if 224≤b0∧b0 < 240∧(1 < n∧128≤b1∧b1 < 192)∧(2 < n∧128≤b2∧b2 < 192) then
  (if b0=224∧b1 < 160∨b0=237∧160≤b1 then 0 else 3) else
 if 240≤b0∧b0 < 245∧(1 < n∧128≤b1∧b1 < 192)∧(2 < n∧128≤b2∧b2 < 192)∧(3 < n∧128≤b3∧b3 < 192) then
  (if b0=240∧b1 < 144∨b0=244∧144≤b1 then 0 else 4) else 0
theorem I9 (n b0 b1 b2 b3:Nat) (h0:b0 < 256) (h1:b1 < 256) (h2:b2 < 256) (h3:b3 < 256) :
  (iD n b0 b1 b2 b3=0→Lib.decodeN n b0 b1 b2 b3=(65533,1))∧(iD n b0 b1 b2 b3≠0→(Lib.decodeN n b0 b1 b2 b3).2=iD n b0 b1 b2 b3∧¬ ((Lib.decodeN n b0 b1 b2 b3).1=65533∧(Lib.decodeN n b0 b1 b2 b3).2=1)):=by
 have key: ∀(r:Nat) (d:Nat×Nat),iD n b0 b1 b2 b3=r→Lib.decodeN n b0 b1 b2 b3=d→(r=0→d=(65533,1))→(r≠0→d.2=r∧¬ (d.1=65533∧d.2=1))→(iD n b0 b1 b2 b3=0→Lib.decodeN n b0 b1 b2 b3=(65533,1))∧(iD n b0 b1 b2 b3≠0→(Lib.decodeN n b0 b1 b2 b3).2=iD n b0 b1 b2 b3∧¬ ((Lib.decodeN n b0 b1 b2 b3).1=65533∧(Lib.decodeN n b0 b1 b2 b3).2=1)):=by
  intro r d e1 e2 e3 e4
  rw [e1,e2]
  exact⟨e3,e4⟩
 have bad:iD n b0 b1 b2 b3=0→Lib.decodeN n b0 b1 b2 b3=(65533,1)→_:=fun e1 e2=>key 0 _ e1 e2 (fun _=>rfl) (fun h=>absurd rfl h)
 by_cases a0:b0 < 128
 ·refine key 1 (b0,1) (by unfold iD;rw [if_pos a0]) (by unfold Lib.decodeN;rw [if_pos a0]) (fun h=>by cases h) (fun _=>⟨rfl,dm⟩)
 by_cases a1:b0 < 224
 ·by_cases c1:194≤b0∧1 < n∧b1 / 64=2
  ·refine key 2 (b0 % 32 * 64 + b1 % 64,2) ?_ ?_ (fun h=>by cases h) (fun _=>⟨rfl,dm⟩)
   ·unfold iD
    (repeat(first | rw [if_pos (by omega)] | rw [if_neg (by omega)]))
   ·unfold Lib.decodeN
    (repeat(first | rw [if_pos (by omega)] | rw [if_neg (by omega)]))
  ·refine bad ?_ ?_
   ·unfold iD
    (repeat(first | rw [if_pos (by omega)] | rw [if_neg (by omega)]))
   ·unfold Lib.decodeN
    by_cases c2:b0 / 32=6∧1 < n∧b1 / 64=2
    ·(repeat(first | rw [if_pos (by omega)] | rw [if_neg (by omega)]))
    ·(repeat(first | rw [if_pos (by omega)] | rw [if_neg (by omega)]))
 by_cases a2:b0 < 240
 ·by_cases c1:(1 < n∧b1 / 64=2)∧2 < n∧b2 / 64=2
  ·by_cases c2:b0=224∧b1 < 160∨b0=237∧160≤b1
   ·refine bad ?_ ?_
    ·unfold iD
     (repeat(first | rw [if_pos (by omega)] | rw [if_neg (by omega)]))
    ·unfold Lib.decodeN
     (repeat(first | rw [if_pos (by omega)] | rw [if_neg (by omega)]))
   ·refine key 3 (b0 % 16 * 4096 + b1 % 64 * 64 + b2 % 64,3) ?_ ?_ (fun h=>by cases h) (fun _=>⟨rfl,dm⟩)
    ·unfold iD
     (repeat(first | rw [if_pos (by omega)] | rw [if_neg (by omega)]))
    ·unfold Lib.decodeN
     (repeat(first | rw [if_pos (by omega)] | rw [if_neg (by omega)]))
  ·refine bad ?_ ?_
   ·unfold iD
    (repeat(first | rw [if_pos (by omega)] | rw [if_neg (by omega)]))
   ·unfold Lib.decodeN
    (repeat(first | rw [if_pos (by omega)] | rw [if_neg (by omega)]))
 by_cases c1:(1 < n∧b1 / 64=2)∧(2 < n∧b2 / 64=2)∧3 < n∧b3 / 64=2
 ·by_cases c2:b0 < 245∧¬ (b0=240∧b1 < 144∨b0=244∧144≤b1)
  ·refine key 4 (b0 % 8 * 262144 + b1 % 64 * 4096 + b2 % 64 * 64 + b3 % 64,4) ?_ ?_ (fun h=>by cases h) (fun _=>⟨rfl,dm⟩)
   ·unfold iD
    (repeat(first | rw [if_pos (by omega)] | rw [if_neg (by omega)]))
   ·unfold Lib.decodeN
    (repeat(first | rw [if_pos (by omega)] | rw [if_neg (by omega)]))
  ·refine bad ?_ ?_
   ·unfold iD
    by_cases c3:b0 < 245
    ·(repeat(first | rw [if_pos (by omega)] | rw [if_neg (by omega)]))
    ·(repeat(first | rw [if_pos (by omega)] | rw [if_neg (by omega)]))
   ·unfold Lib.decodeN
    by_cases c3:b0 / 8=30
    ·(repeat(first | rw [if_pos (by omega)] | rw [if_neg (by omega)]))
    ·(repeat(first | rw [if_pos (by omega)] | rw [if_neg (by omega)]))
 ·refine bad ?_ ?_
  ·unfold iD
   (repeat(first | rw [if_pos (by omega)] | rw [if_neg (by omega)]))
  ·unfold Lib.decodeN
   (repeat(first | rw [if_pos (by omega)] | rw [if_neg (by omega)]))
theorem Wb (s:List UInt8) (i:Nat):(⟨s.toArray⟩:ByteArray).get! i=s.getD i 0:=by
 show s.toArray[i]! =_
 rw [Array.getElem!_eq_getD,Array.getD_eq_getD_getElem?];simp [default]
theorem Fv {s:List UInt8} {i k:Nat}:fM s (i + k)=true↔(k < s.length - i∧128≤(s.getD (i + k) 0).toNat∧(s.getD (i + k) 0).toNat < 192):=by
 unfold fM;simp only [c₃,decide_eq_true_eq];omega
theorem Qb (s:List UInt8) (i:Nat):nX s i=iD (s.length - i) (s.getD i 0).toNat (s.getD (i + 1) 0).toNat (s.getD (i + 2) 0).toNat (s.getD (i + 3) 0).toNat:=by
 unfold nX iD;simp only [Fv]
theorem dec_at (s:List UInt8) (i:Nat):Utf8.decode ⟨s.toArray⟩ i=Lib.decodeN (s.length - i) (s.getD i 0).toNat (s.getD (i + 1) 0).toNat (s.getD (i + 2) 0).toNat (s.getD (i + 3) 0).toNat:=by
 rw [Lib.decode_at];simp only [Wb];rw [show (⟨s.toArray⟩:ByteArray).size=s.length by simp [ByteArray.size]]
theorem Fw {s:List UInt8} {i:Nat} (hi:i < s.length):Lib.decodeGo ⟨(s.drop i).toArray⟩=Utf8.decode ⟨s.toArray⟩ i:=by
 have gM:(⟨(s.drop i).toArray⟩:ByteArray).size=s.length - i:=by simp [ByteArray.size]
 unfold Lib.decodeGo;rw [if_neg (by rw [gM];omega),dec_at,dec_at];simp only [a₂,Nat.sub_zero,List.getD_eq_getElem?_getD,List.getElem?_drop,Nat.add_zero,c₅]
theorem Qd (n:Nat):BT (n:Int)=some n:=by unfold BT;rw [if_pos om];rfl
theorem Qf {s:List UInt8} {pos:Nat} (h:pos < s.length):vD s pos=some (Utf8.decode ⟨s.toArray⟩ pos):=by unfold vD;rw [if_pos h]
theorem Qg {s:List UInt8} {pos:Nat} (h: ¬ pos < s.length):vD s pos=none:=by unfold vD;rw [if_neg h]
attribute [local irreducible] ak aB aD aJ aQ vC aY aw
attribute [local irreducible] BT vD
theorem Qh (s:List UInt8) (hs:s.length < 500000000):aE Tryz.prog GU 193 [.str s] (.bool (ur s)):=by
 generalize hr:ur s=r;unfold ur nY at hr;generalize hv:kq s.length s 0 0=v at hr;obtain⟨V,ok⟩:=v;dsimp only at hr;refine bA seat Tryz.func193 31 ?_;refine aa ?_;refine av (Nat×Nat×Nat) (fun x=> [(9, .ptr 0 0 0 0 []),(3, .int .i64 x.2.2),(0, .str s)]) (fun x=> [(0,⟨9,0,false,0,[.mpv [.str s] [.nilp, .int .i64 (x.2.1:Nat)]]⟩)]) 1 (fun x=>kq x.1 s x.2.1 x.2.2=(V,ok)∧s.length≤x.2.1 + x.1∧x.2.2≤x.2.1∧x.2.1≤s.length + 4) (fun x=>x.1) (s.length,0,0) ⟨hv,dm,dm,dm⟩ (by dsimp only;exact(vm [(0,_)] [])) ?_;clear hv;rintro⟨f,pos,cnt⟩ ⟨hR,hf,hc,hp⟩;try dsimp only
 dsimp only at hR hf hc hp;have f0:=aj.mk (Qd pos);by_cases hi:pos < s.length
 ·have c0:=Qa (s.drop pos);rw [Fw hi,← a₈ (l:=s.drop pos) (i:=s.length - pos) (by rw [a₂];omega)] at c0;have RU:=I9 (s.length - pos) (s.getD pos 0).toNat (s.getD (pos + 1) 0).toNat (s.getD (pos + 2) 0).toNat (s.getD (pos + 3) 0).toNat (UInt8.toNat_lt _) (UInt8.toNat_lt _) (UInt8.toNat_lt _) (UInt8.toNat_lt _);rw [← Qb,← dec_at] at RU;have f1:=Qf hi;have hle:=C9 s pos;obtain⟨f',rfl⟩: ∃f',f=f' + 1:=⟨f - 1,om⟩
  rw [kq,if_pos hi] at hR;generalize nX s pos=k at *;generalize Utf8.decode ⟨s.toArray⟩ pos=cw at *;obtain⟨c,wd⟩:=cw;dsimp only at c0 RU;have f1:=aX.mk f1;have H3:=gH (κ:= .i64) (Nat.le_of_lt hi);have f2:=aj.mk H3;by_cases hk:k=0
  ·rw [if_pos hk] at hR;have h2:=RU.1 hk;simp only [a₀] at h2 hR;obtain⟨rfl,rfl⟩:=h2;obtain⟨rfl,rfl⟩:=hR;refine aa ?_;refine dZ (c0) ?_;subst hr;refine au ?_;rfl
  ·rw [if_neg hk] at hR;have h2:=RU.2 hk;obtain⟨rfl,h3⟩:=h2;refine aa ?_;refine dZ (c0) ?_;refine ag rfl rfl ?_ rfl ?_ <;> intro h
   ·have Bu:c=65533:=by have:=eq_of_beq h;omega
    refine aa ?_;refine ad rfl ?_ ?_ <;> intro h
    ·exact absurd ⟨Bu,by have:=eq_of_beq h;omega⟩ h3
    refine aa ?_;exact⟨(f',pos + wd,cnt + 1),⟨hR,dm,dm,dm⟩,by show f' < f' + 1;omega,(by dsimp only;exact(vm [(0,_)] []))⟩
   ·refine aa ?_;exact⟨(f',pos + wd,cnt + 1),⟨hR,dm,dm,dm⟩,by show f' < f' + 1;omega,(by dsimp only;exact(vm [(0,_)] []))⟩
 ·have f1:=aX.mk (Qg hi);have:kq f s pos cnt=(cnt,true):=by cases f with | zero=>rfl | succ f=>rw [kq,if_neg hi]
  rw [this] at hR;simp only [a₀] at hR;obtain⟨rfl,rfl⟩:=hR;subst hr;refine aa ?_;refine au ?_;exact congrArg MV.bool (decide_eq_decide.2 om)
end
section
open Go.ChangeShapes Go.WideShapes Go.ChangeAt Go.RowKit
theorem own:ownKnob Tryz.prog.godebug=none:=by kernel_rfl
theorem AS:laidOutB Tryz.prog=true:=by kernel_rfl
noncomputable abbrev Hg:List (String×DataW Unit):=Rows.appChecksRow.laid
theorem LJ:Rows.laid_unicode_utf8_first=Lib.firstData:=by kernel_rfl
theorem Ja:(Rows.laid_unicode_utf8_acceptRanges:DataW Unit)=Lib.acceptData:=by kernel_rfl
theorem LK {W:World} (hL:laidMet Tryz.prog Hg W) (_hs:W.ShapedOpen Tryz.prog):GU.ok W:=
 utf8Tabs_of_readsT (ρ:=Tryz.lays197_ren) ⟨Tryz.underlying5,Tryz.underlying335,Tryz.underlying337,Tryz.underlying338⟩ ⟨by kernel_rfl,by kernel_rfl,by kernel_rfl,by kernel_rfl,by kernel_rfl,by kernel_rfl,by kernel_rfl⟩
  (by rw [← LJ];exact Lib.laidMet.reads hL (List.Mem.tail _ (List.Mem.head _)))
  (by rw [← Ja];exact Lib.laidMet.reads hL (List.Mem.head _))
noncomputable abbrev Hh (os:Os):World:=World.laidAll Tryz.prog os Hg
theorem Da {C:Checked} {os:Os} {f:FuncId} {fn:Func} {H:Type} {enc:TypeId×Value→H} {s:OpenSpec} {conds:List PathCond} {apart:Bool} {laid:List (String×DataW Unit)} (w0:World) (hos:w0.os=os) (args:Array Value)
  (hsh:(w0.forCall (fun _ _=>0) ⟨#[],args,[]⟩).Shaped C.prog)
  (eG:Input.okWideB C.prog (w0.forCall (fun _ _=>0) ⟨#[],args,[]⟩) f ⟨#[],args,[]⟩=true)
  (dP:s.preRow enc C.prog fn conds apart laid (w0.forCall (fun _ _=>0) ⟨#[],args,[]⟩).memory args) :
  ∃(w:World) (tape:Tape) (i:Input),w.os=os∧(w.forCall tape i).Shaped C.prog∧i.vars= [] ∧Input.okWide C.prog (w.forCall tape i) .any w.heap.size f i∧
   s.preRow enc C.prog fn conds apart laid (w.forCall tape i).memory i.args∧({}:Assume).holds C.prog (lone (Frame.enter C.prog f i.args .normal) [] (w.forCall tape i)):=
 ⟨w0,fun _ _=>0,⟨#[],args,[]⟩,hos,hsh,(Input.okWide_of_okWideB (base:=0) eG).1,(Input.okWide_of_okWideB eG).2,dP,by
  simp only [Assume.holds]
  exact⟨sm,sm,sm,sm,sm⟩⟩
theorem Qi (os:Os) (args:Array Value):((Hh os).forCall (fun _ _=>0) ⟨#[],args,[]⟩).Shaped Tryz.prog:=World.shaped_of_ZipB (by kernel_rfl) (by kernel_rfl)
theorem LL (os:Os) (args:Array Value):laidMet Tryz.prog Hg ((Hh os).forCall (fun _ _=>0) ⟨#[],args,[]⟩).memory:=laidMet_laidAll args (by kernel_rfl) (by kernel_rfl)
theorem iE:Opn Tryz.prog 3 1 fun m=> ∃n,m= .int .i64 n∧(Lit.int .i64 n).wf=true:=Opn.int Tryz.underlying3 (by kernel_rfl)
theorem LM:Opn Tryz.prog 24 1 fun m=> ∃l,m= .sl l.length l∧(∀x∈l,∃n,x= .int .i64 n∧(Lit.int .i64 n).wf=true)∧l.length≤140737488355328:=Opn.slice Tryz.underlying24 (by kernel_rfl) (Nat.le_of_ble_eq_true (by kernel_rfl)) om iE
theorem Jb {m:MV} (h: ∃l,m= .sl l.length l∧(∀x∈l,∃n,x= .int .i64 n∧(Lit.int .i64 n).wf=true)∧l.length≤140737488355328): ∃xs:List Int,m=jm xs∧xs.length≤140737488355328:=by
 obtain⟨l,rfl,h,hl⟩:=h;obtain⟨us,rfl,_⟩:=te l h;exact⟨us,by unfold jm;rw [b₅],by simpa using hl⟩
end
section
variable {G:GS}
attribute [local irreducible] ak aB aD aJ aQ vC aY aw
def jQ (t:jX):List UInt8×Nat:=if ef t≠0 then([],ef t) else if 4096 < (fY t).length then([],3) else(fY t,0)
theorem LN (t:jX) (ht:jz t):aT Tryz.prog G 44 [pR t] [] 0 (.tup [.sl (jQ t).1.length (u8s (jQ t).1), .int .i64 (jQ t).2]) [] 0:=by
 have c1:=zg (G:=G) t ht;have c2:=LH (G:=G) t ht;have xN:=tz ht;unfold jQ;generalize ef t=v at *;generalize fY t=m at *;by_cases hv:v=0
 ·subst hv;rw [if_neg sm];by_cases hm:4096 < m.length
  ·rw [if_pos hm];refine dK seat Tryz.func44 17 ?_;(iterate 6 ((all_goals(refine aa ?_));(all_goals(first | (refine ah rfl aA rfl (src (c1)) rfl rfl ?_) | (refine ah rfl aA rfl (c2) rfl rfl ?_) | ((first | refine ag rfl rfl ?_ rfl ?_ | refine ad rfl ?_ ?_);all_goals(intro h;(try simp only [pl] at h);(try (exfalso;omega)))) | skip))));exact en [_,_]
  ·rw [if_neg hm];refine dK seat Tryz.func44 17 ?_;(iterate 6 ((all_goals(refine aa ?_));(all_goals(first | (refine ah rfl aA rfl (src (c1)) rfl rfl ?_) | (refine ah rfl aA rfl (c2) rfl rfl ?_) | ((first | refine ag rfl rfl ?_ rfl ?_ | refine ad rfl ?_ ?_);all_goals(intro h;(try simp only [pl] at h);(try (exfalso;omega)))) | skip))));exact en [_,_]
 ·rw [if_pos hv];refine dK seat Tryz.func44 17 ?_;(iterate 5 ((all_goals(refine aa ?_));(all_goals(first | (refine ah rfl aA rfl (src (c1)) rfl rfl ?_) | (refine ah rfl aA rfl (c2) rfl rfl ?_) | ((first | refine ag rfl rfl ?_ rfl ?_ | refine ad rfl ?_ ?_);all_goals(intro h;(try simp only [pl] at h);(try (exfalso;omega)))) | skip))));exact en [_,_]
theorem wW (B:Nat): ∀(k:Nat) (b:List UInt8) (at_:Nat) (acc:List fq),b.length≤B→(∀f∈acc,jo f∧f.bytes.length≤B)→(∀f∈(gA k b at_ acc).1,jo f∧f.bytes.length≤B)∧(gA k b at_ acc).1.length≤acc.length + k
 | k,[],at_,acc,_,ha=>by rw [nQ];exact⟨ha,dm⟩
 | 0,x :: b,at_,acc,_,_=>by rw [mz sm];exact⟨sm,sm⟩
 | k + 1,x :: b,at_,acc,hb,ha=>by
  rw [mA sm]
  split
  ·exact⟨sm,sm⟩
  ·rename_i h
   have h1:=Fk (b:=x :: b) om
   have:=wW B k ((x :: b).drop (gj (x :: b)).2.1) (at_ + (gj (x :: b)).2.1) (acc ++ [(gj (x :: b)).1]) (by rw [a₂];omega) (fa ha fun f hf=>by rw [b₆.1 hf];exact⟨h1.2.2.1,om⟩)
   rw [a₁,a₃] at this
   exact⟨this.1,om⟩
theorem fT (b:List UInt8):(∀f∈(aF b).1,jo f∧f.bytes.length≤b.length)∧(aF b).1.length≤1024:=by
 have:=wW b.length 1024 b 0 [] (c₇ _) sm;simpa [aF] using this
def ku:List fq→mF→mF×Bool
 | [],x=>(x,true)
 | f :: r,x=>if f.num=1∧f.kind=2 then ku r ⟨f.bytes,x.amt⟩ else if f.num=2∧f.kind=0 then ku r ⟨x.to_,f.val⟩ else(x,false)
def ei (b:List UInt8):mF×Bool:=match ku (aF b).1 ⟨[],0⟩ with
 | (x,ok)=>(x,ok && (decide ((aF b).2.2=0) && (aG (bQ 1 x.to_ ++ dz 2 x.amt) == b)))
theorem vd (a b:List UInt8):aE Tryz.prog G 142 [.sl a.length (u8s a), .sl b.length (u8s b)] (.bool (a == b)):=by
 have f1:=aj.mk (gz a);have f2:=aj.mk (gz b);refine bA seat Tryz.func142 10 ?_;refine aa ?_;refine au ?_;rfl
theorem Fy (b:List UInt8) (hb:b.length≤5000):aT Tryz.prog G 203 [.sl b.length (u8s b)] [] 0 (.tup [mU (ei b).1, .bool (ei b).2]) [] 0:=by
 have c0:=rD (G:=G) b om;have Bx:=fT b;generalize hr:ei b=r;unfold ei at hr;generalize aF b=t at *;obtain⟨l,Yv,e⟩:=t;dsimp only at hr Bx c0;obtain⟨R,Oo⟩:=r;dsimp only;refine dK seat Tryz.func203 63 ?_;refine aa ?_;refine jn (c0) ?_;refine av (Nat×mF) (fun x=> [(18, .int .i64 x.1),(17, .int .i64 l.length),(16, .sl l.length (l.map cj)),(7, .ptr 1 2 0 0 []),(6, .int .i64 e),(2, .ptr 0 2 0 0 []),(0, .sl b.length (u8s b))]) (fun x=> [(0,⟨95,2,false,0,[.st [.str [], .int .u64 0]]⟩),(1,⟨95,2,false,0,[.st [.str x.2.to_, .int .u64 x.2.amt]]⟩)]) 2 (fun x=>x.1≤l.length∧x.2.to_.length≤5000∧bm x.2.amt∧(match ku (l.drop x.1) x.2 with | (x,ok)=>(x,ok && (decide (e=0) && (aG (bQ 1 x.to_ ++ dz 2 x.amt) == b))))=(R,Oo)) (fun x=>l.length - x.1) (0,⟨[],0⟩) ⟨a₅ _,sm,by simp [bm],by dsimp only;rw [a₇];exact hr⟩ (by dsimp only;exact(vm [(0,_),(1,_)] [])) ?_;rintro⟨k,x⟩ ⟨hk,BB,yF,hR⟩;obtain⟨to_,amt⟩:=x;try dsimp only
 dsimp only at hk BB yF hR;refine aa ?_;refine ad rfl ?_ ?_ <;> intro h
 ·have aC:k < l.length:=by have:=ot h;omega
  have eG:=Bx.1 _ (b₂ aC);have aH:=oW aC;rw [a₄ aC] at hR;generalize l[k] =f at *;obtain⟨num,kind,val,bytes⟩:=f;replace aH:bI (l.map cj) l.length (k:Int)=some (.st [.int .i64 num, .int .i64 kind, .int .u64 val, .sl bytes.length (u8s bytes)]):=aH;have aH:=aj.mk aH;have RP:=aj.mk (gz bytes);rw [ku] at hR;dsimp only at hR eG;by_cases g1:num=1∧kind=2
  ·rw [if_pos g1] at hR;obtain⟨rfl,rfl⟩:=g1;(iterate 6 ((all_goals(refine aa ?_));(all_goals(first | ((first | refine ag rfl rfl ?_ rfl ?_ | refine ad rfl ?_ ?_);all_goals(intro h;(try simp only [pl] at h);(try (exfalso;omega)))) | skip))));exact⟨(k + 1,⟨bytes,amt⟩),⟨dm,dm,yF,hR⟩,by show l.length - (k + 1) < l.length - k;omega,(by dsimp only;exact(vm [(0,_),(1,_)] []))⟩
  rw [if_neg g1] at hR;by_cases g2:num=2∧kind=0
  ·rw [if_pos g2] at hR;obtain⟨rfl,rfl⟩:=g2;(iterate 6 ((all_goals(refine aa ?_));(all_goals(first | ((first | refine ag rfl rfl ?_ rfl ?_ | refine ad rfl ?_ ?_);all_goals(intro h;(try simp only [pl] at h);(try (exfalso;omega)))) | skip))));exact⟨(k + 1,⟨to_,val⟩),⟨dm,BB,by have:=eG.1;unfold jo at this;dsimp only at this ⊢;unfold bm;omega,hR⟩,by show l.length - (k + 1) < l.length - k;omega,(by dsimp only;exact(vm [(0,_),(1,_)] []))⟩
  ·rw [if_neg g2] at hR;dsimp only at hR;rw [b₁] at hR;simp only [a₀] at hR;obtain⟨rfl,rfl⟩:=hR;(iterate 6 ((all_goals(refine aa ?_));(all_goals(first | ((first | refine ag rfl rfl ?_ rfl ?_ | refine ad rfl ?_ ?_);all_goals(intro h;(try simp only [pl] at h);(try (exfalso;omega)))) | skip))));all_goals(refine au ?_;exact en [_,_])
 ·have aC:k=l.length:=by have:=oF h;omega
  subst aC;rw [b₃,ku] at hR;dsimp only at hR;rw [b₄] at hR;have Zk:=rH (x:=⟨to_,amt⟩) ⟨BB,yF⟩;have Gq:=o6 (x:=⟨to_,amt⟩) ⟨BB,yF⟩;have hto:=ko (n:=1) (s:=to_) om om 5000 BB om;have d1:=AQ (G:=G) [] 1 to_ sm om;rw [c₆] at d1;have d2:=nU (G:=G) (bQ 1 to_) 2 amt om;dsimp only at Zk Gq;have d3:=oZ (G:=G) (bQ 1 to_ ++ dz 2 amt) (fun f hf=>(Zk.1 f hf).1) om om;have d4:=vd (G:=G) (aG (bQ 1 to_ ++ dz 2 amt)) b;unfold AP at d1 d2;by_cases he:e=0
  ·subst he;rw [decide_eq_true rfl,b₄] at hR;simp only [a₀] at hR;obtain⟨rfl,rfl⟩:=hR;generalize bQ 1 to_ ++ dz 2 amt=li at *;generalize bQ 1 to_=lt at *;generalize aG li=mi at *;refine aa ?_;refine al [ae 0,ae 1,ae 2,ae 3,ae 4,ae 5,dF 6,ae 7,ae 8,dF 9,dF 10,ae 11,dF 12,ae 13,ae 14,ae 15] ?_;refine aa ?_;refine de rfl aA rfl [] (d1) [] [] ⟨rfl,trivial,rfl,lm,mm⟩ rfl rfl rfl rfl ?_;refine aa ?_;refine de rfl aA rfl [9] (d2) [(0,9)] [] ⟨rfl,trivial,rfl,lm,mm⟩ rfl rfl rfl rfl ?_;refine aa ?_;refine cG rfl aA rfl [12] (d3) rfl [(12,li.length)] mm lm rfl ?_;refine aa ?_;refine di (d4) ?_;refine au ?_;refine⟨[_,_],[],[],rfl,rfl,trivial,rfl,⟨?_,?_,trivial⟩,?_⟩
   ·exact .inl ⟨rfl,rfl⟩
   ·exact rv
   ·exact mm
  ·rw [decide_eq_false he,b₁] at hR;simp only [a₀] at hR;obtain⟨rfl,rfl⟩:=hR;refine aa ?_;refine al [ae 0,ae 1,ae 2,ae 3,ae 4,ae 5,dF 6,ae 7,ae 8,dF 9,dF 10,ae 11,dF 12,ae 13,ae 14,ae 15] ?_;refine aa ?_;refine ez rfl rfl ?_ rfl ?_ <;> intro h
   ·exfalso;have:(e:Int)=0:=by simpa using h
    omega
   refine aa ?_;refine au ?_;refine⟨[_,_],[],[],rfl,rfl,trivial,rfl,⟨?_,?_,trivial⟩,?_⟩
   ·exact .inl ⟨rfl,rfl⟩
   ·exact rv
   ·exact mm
def bR:List fq→jX→jX×Bool
 | [],t=>(t,true)
 | f :: r,t=>
  if f.num=1∧f.kind=2 then bR r ⟨f.bytes,t.seq,t.gas,t.fee,t.memo,t.trs⟩ else
  if f.num=2∧f.kind=0 then bR r ⟨t.sender,f.val,t.gas,t.fee,t.memo,t.trs⟩ else
  if f.num=3∧f.kind=0 then bR r ⟨t.sender,t.seq,f.val,t.fee,t.memo,t.trs⟩ else
  if f.num=4∧f.kind=0 then bR r ⟨t.sender,t.seq,t.gas,f.val,t.memo,t.trs⟩ else
  if f.num=5∧f.kind=2 then bR r ⟨t.sender,t.seq,t.gas,t.fee,f.bytes,t.trs⟩ else
  if f.num=6∧f.kind=2 then(if (ei f.bytes).2 then bR r ⟨t.sender,t.seq,t.gas,t.fee,t.memo,t.trs ++ [(ei f.bytes).1]⟩ else(t,false)) else(t,false)
def tx0:jX:=⟨[],0,0,0,[],[]⟩
theorem wX: ∀(l:List fq) (x:mF),(∀f∈l,jo f∧f.bytes.length≤5000)→nV x→nV (ku l x).1
 | [],x,_,h=>h
 | f :: r,x,hl,h=>by
  have hf:=hl f sm
  rw [ku]
  split
  ·exact wX r _ (fun g hg=>hl g (by simp [hg])) ⟨hf.2,h.2⟩
  ·split
   ·exact wX r _ (fun g hg=>hl g (by simp [hg])) ⟨h.1,by have:=hf.1;unfold jo at this;unfold bm;dsimp only;omega⟩
   ·exact h
theorem AT {b:List UInt8} (hb:b.length≤5000):nV (ei b).1:=by
 unfold ei;have h:=fT b;have:=wX (aF b).1 ⟨[],0⟩ (fun f hf=>⟨(h.1 f hf).1,by have:=(h.1 f hf).2;omega⟩) ⟨sm,by simp [bm]⟩;generalize ku (aF b).1 ⟨[],0⟩=r at *;exact this
theorem kv: ∀(l:List fq) (t:jX),(∀f∈l,jo f∧f.bytes.length≤5000)→t.trs.length + l.length≤5000→jz t→jz (bR l t).1
 | [],t,_,_,h=>h
 | f :: r,t,hl,hn,h=>by
  have hf:=hl f sm
  have hr: ∀g∈r,jo g∧g.bytes.length≤5000:=fun g hg=>hl g (by simp [hg])
  have hv:bm f.val:=by have:=hf.1;unfold jo at this;unfold bm;omega
  simp only [d₁] at hn
  obtain⟨h1,h2,h3,h4,h5,h6,h7⟩:=h
  rw [bR]
  split
  ·exact kv r _ hr dm ⟨hf.2,h2,h3,h4,h5,h6,h7⟩
  split
  ·exact kv r _ hr dm ⟨h1,hv,h3,h4,h5,h6,h7⟩
  split
  ·exact kv r _ hr dm ⟨h1,h2,hv,h4,h5,h6,h7⟩
  split
  ·exact kv r _ hr dm ⟨h1,h2,h3,hv,h5,h6,h7⟩
  split
  ·exact kv r _ hr dm ⟨h1,h2,h3,h4,hf.2,h6,h7⟩
  split
  ·split
   ·exact kv r _ hr (by dsimp only;rw [a₁,a₃];omega) ⟨h1,h2,h3,h4,h5,by dsimp only;rw [a₁,a₃];omega,fa h7 fun x hx=>by rw [b₆.1 hx];exact AT hf.2⟩
   ·exact⟨h1,h2,h3,h4,h5,h6,h7⟩
  ·exact⟨h1,h2,h3,h4,h5,h6,h7⟩
theorem Tt (l:List fq) (hl: ∀f∈l,jo f∧f.bytes.length≤5000) (hn:l.length≤1024):aT Tryz.prog G 141 [.sl l.length (l.map cj)] [] 0 (.tup [pR (bR l tx0).1, .bool (bR l tx0).2]) [] 0:=by
 generalize hr:bR l tx0=r;obtain⟨R,Oo⟩:=r;dsimp only;refine dK seat Tryz.func141 104 ?_;refine aa ?_;refine av (Nat×jX) (fun x=> [(11, .int .i64 x.1),(10, .int .i64 l.length),(9, .sl l.length (l.map cj)),(4, .ptr 1 6 0 0 []),(2, .ptr 0 6 0 0 [])]) (fun x=> [(0,⟨98,6,false,0,[.st [.str [], .int .u64 0, .int .u64 0, .int .u64 0, .str [], .nils]]⟩),(1,⟨98,6,false,0,[.st [.str x.2.sender, .int .u64 x.2.seq, .int .u64 x.2.gas, .int .u64 x.2.fee, .str x.2.memo, .ms 2 2 0 x.2.trs.length]]⟩),(2,⟨95,2,true,0,x.2.trs.map mU⟩)]) 3 (fun x=>x.1≤l.length∧x.2.trs.length≤x.1∧bR (l.drop x.1) x.2=(R,Oo)) (fun x=>l.length - x.1) (0,tx0) ⟨a₅ _,a₅ _,by dsimp only;rw [a₇];exact hr⟩ (by dsimp only;exact(vm [(0,_),(1,_)] [])) ?_;rintro⟨k,t⟩ ⟨hk,ht,hR⟩;obtain⟨sender,seq,gas,fee,memo,trs⟩:=t;try dsimp only
 dsimp only at hk ht hR;refine aa ?_;refine ad rfl ?_ ?_ <;> intro h
 ·have aC:k < l.length:=by have:=ot h;omega
  have eG:=hl _ (b₂ aC);have aH:=oW aC;rw [a₄ aC] at hR;generalize l[k] =f at *;obtain⟨num,kind,val,bytes⟩:=f;replace aH:bI (l.map cj) l.length (k:Int)=some (.st [.int .i64 num, .int .i64 kind, .int .u64 val, .sl bytes.length (u8s bytes)]):=aH;have aH:=aj.mk aH;have RP:=aj.mk (gz bytes);rw [bR] at hR;dsimp only at hR eG;by_cases g1:num=1∧kind=2
  ·rw [if_pos g1] at hR;obtain⟨rfl,rfl⟩:=g1;(iterate 4 ((all_goals(refine aa ?_));(all_goals(first | ((first | refine ag rfl rfl ?_ rfl ?_ | refine ad rfl ?_ ?_);all_goals(intro h;(try simp only [pl] at h);(try (exfalso;omega)))) | skip))));exact⟨(k + 1,⟨bytes,seq,gas,fee,memo,trs⟩),⟨dm,dm,hR⟩,by show l.length - (k + 1) < l.length - k;omega,(by dsimp only;exact(vm [(0,_),(1,_),(2,_)] []))⟩
  rw [if_neg g1] at hR;by_cases g2:num=2∧kind=0
  ·rw [if_pos g2] at hR;obtain⟨rfl,rfl⟩:=g2;(iterate 6 ((all_goals(refine aa ?_));(all_goals(first | ((first | refine ag rfl rfl ?_ rfl ?_ | refine ad rfl ?_ ?_);all_goals(intro h;(try simp only [pl] at h);(try (exfalso;omega)))) | skip))));exact⟨(k + 1,⟨sender,val,gas,fee,memo,trs⟩),⟨dm,dm,hR⟩,by show l.length - (k + 1) < l.length - k;omega,(by dsimp only;exact(vm [(0,_),(1,_),(2,_)] []))⟩
  rw [if_neg g2] at hR;by_cases g3:num=3∧kind=0
  ·rw [if_pos g3] at hR;obtain⟨rfl,rfl⟩:=g3;(iterate 8 ((all_goals(refine aa ?_));(all_goals(first | ((first | refine ag rfl rfl ?_ rfl ?_ | refine ad rfl ?_ ?_);all_goals(intro h;(try simp only [pl] at h);(try (exfalso;omega)))) | skip))));exact⟨(k + 1,⟨sender,seq,val,fee,memo,trs⟩),⟨dm,dm,hR⟩,by show l.length - (k + 1) < l.length - k;omega,(by dsimp only;exact(vm [(0,_),(1,_),(2,_)] []))⟩
  rw [if_neg g3] at hR;by_cases g4:num=4∧kind=0
  ·rw [if_pos g4] at hR;obtain⟨rfl,rfl⟩:=g4;(iterate 10 ((all_goals(refine aa ?_));(all_goals(first | ((first | refine ag rfl rfl ?_ rfl ?_ | refine ad rfl ?_ ?_);all_goals(intro h;(try simp only [pl] at h);(try (exfalso;omega)))) | skip))));exact⟨(k + 1,⟨sender,seq,gas,val,memo,trs⟩),⟨dm,dm,hR⟩,by show l.length - (k + 1) < l.length - k;omega,(by dsimp only;exact(vm [(0,_),(1,_),(2,_)] []))⟩
  rw [if_neg g4] at hR;by_cases g5:num=5∧kind=2
  ·rw [if_pos g5] at hR;obtain⟨rfl,rfl⟩:=g5;(iterate 12 ((all_goals(refine aa ?_));(all_goals(first | ((first | refine ag rfl rfl ?_ rfl ?_ | refine ad rfl ?_ ?_);all_goals(intro h;(try simp only [pl] at h);(try (exfalso;omega)))) | skip))));exact⟨(k + 1,⟨sender,seq,gas,fee,bytes,trs⟩),⟨dm,dm,hR⟩,by show l.length - (k + 1) < l.length - k;omega,(by dsimp only;exact(vm [(0,_),(1,_),(2,_)] []))⟩
  rw [if_neg g5] at hR;by_cases g6:num=6∧kind=2
  ·rw [if_pos g6] at hR;obtain⟨rfl,rfl⟩:=g6;have c1:=Fy (G:=G) bytes eG.2;generalize ei bytes=q at *;obtain⟨x,b⟩:=q;dsimp only at c1 hR;cases b with
   | false=>
    rw [if_neg sm] at hR;simp only [a₀] at hR;obtain⟨rfl,rfl⟩:=hR;(iterate 16 ((all_goals(refine aa ?_));(all_goals(first | (refine ah rfl aA rfl (c1) rfl rfl ?_) | ((first | refine ag rfl rfl ?_ rfl ?_ | refine ad rfl ?_ ?_);all_goals(intro h;(try simp only [pl] at h);(try (exfalso;omega)))) | skip))));all_goals(refine au ?_;(refine⟨[_,_],[],[(2,trs.length)],rfl,rfl,?_,rfl,⟨?_,?_,trivial⟩,?_⟩;(exact⟨(show trs.length≤(trs.map mU).length by simp),trivial⟩);(exact .inr ⟨_,rfl,lm⟩);exact rv;exact mm))
   | true=>
    rw [if_pos rfl] at hR;(iterate 10 ((all_goals(refine aa ?_));(all_goals(first | (refine ah rfl aA rfl (c1) rfl rfl ?_) | ((first | refine ag rfl rfl ?_ rfl ?_ | refine ad rfl ?_ ?_);all_goals(intro h;(try simp only [pl] at h);(try (exfalso;omega)))) | skip))));refine aO rfl rfl (by intro R hR;refine da hR ?_;(refine b₇ (c₇ _) ?_;refine⟨_,rfl,?_⟩;refine b₇ ⟨sm,ai (by kernel_rfl) pf⟩ ?_;refine⟨(trs ++ [x]).map mU,sv (by simp;rfl),trs.length + 1,sv pf,?_⟩);exact hR) rfl ?_;refine aa ?_;exact⟨(k + 1,⟨sender,seq,gas,fee,memo,trs ++ [x]⟩),⟨dm,by dsimp only;rw [a₁,a₃];omega,hR⟩,by show l.length - (k + 1) < l.length - k;omega,(by dsimp only;rw [a₁,a₃];exact(vm [(0,_),(1,_),(2,_)] []))⟩
  ·rw [if_neg g6] at hR;simp only [a₀] at hR;obtain⟨rfl,rfl⟩:=hR;(iterate 14 ((all_goals(refine aa ?_));(all_goals(first | ((first | refine ag rfl rfl ?_ rfl ?_ | refine ad rfl ?_ ?_);all_goals(intro h;(try simp only [pl] at h);(try (exfalso;omega)))) | skip))));all_goals(refine au ?_;(refine⟨[_,_],[],[(2,trs.length)],rfl,rfl,?_,rfl,⟨?_,?_,trivial⟩,?_⟩;(exact⟨(show trs.length≤(trs.map mU).length by simp),trivial⟩);(exact .inr ⟨_,rfl,lm⟩);exact rv;exact mm))
 ·have aC:k=l.length:=by have:=oF h;omega
  subst aC;rw [b₃,bR] at hR;simp only [a₀] at hR;obtain⟨rfl,rfl⟩:=hR;refine aa ?_;all_goals(refine au ?_;(refine⟨[_,_],[],[(2,trs.length)],rfl,rfl,?_,rfl,⟨?_,?_,trivial⟩,?_⟩;(exact⟨(show trs.length≤(trs.map mU).length by simp),trivial⟩);(exact .inr ⟨_,rfl,lm⟩);exact rv;exact mm))
def aW (raw:List UInt8):jX×Nat:=
 if 4096 < raw.length then(tx0,3) else
 if (aF raw).2.2≠0∨(bR (aF raw).1 tx0).2=false∨fY (bR (aF raw).1 tx0).1≠raw then(tx0,4) else
 if ef (bR (aF raw).1 tx0).1≠0 then(tx0,ef (bR (aF raw).1 tx0).1) else((bR (aF raw).1 tx0).1,0)
theorem wY:jz tx0:=⟨by simp [tx0],by simp [tx0,bm],by simp [tx0,bm],by simp [tx0,bm],by simp [tx0],by simp [tx0],by simp [tx0]⟩
theorem Sh {raw:List UInt8} (h:raw.length≤4096):jz (bR (aF raw).1 tx0).1:=by
 have hf:=fT raw;refine kv _ tx0 (fun f hm=>⟨(hf.1 f hm).1,by have:=(hf.1 f hm).2;omega⟩) ?_ wY
 show 0 + _≤_
 omega
theorem wZ (raw:List UInt8) (qu:raw.length≤140737488355328):aT Tryz.prog G 91 [.sl raw.length (u8s raw)] [] 0 (.tup [pR (aW raw).1, .int .i64 (aW raw).2]) [] 0:=by
 generalize hr:aW raw=r;obtain⟨R,code⟩:=r;dsimp only;unfold aW at hr;by_cases h1:4096 < raw.length
 ·rw [if_pos h1] at hr;simp only [a₀] at hr;obtain⟨rfl,rfl⟩:=hr;refine dK seat Tryz.func91 46 ?_;refine aa ?_;(iterate 4 ((all_goals(refine aa ?_));(all_goals(first | ((first | refine ag rfl rfl ?_ rfl ?_ | refine ad rfl ?_ ?_);all_goals(intro h;(try simp only [pl] at h);(try (exfalso;omega)))) | skip))));all_goals(refine au ?_;exact en [_,_])
 rw [if_neg h1] at hr;have c1:=rD (G:=G) raw om;have hf:=fT raw;have c2:=Tt (G:=G) (aF raw).1 (fun f hm=>⟨(hf.1 f hm).1,by have:=(hf.1 f hm).2;omega⟩) hf.2;have eP:=Sh (raw:=raw) om;have c3:=LH (G:=G) _ eP;have c4:=vd (G:=G) (fY (bR (aF raw).1 tx0).1) raw;have c5:=zg (G:=G) _ eP;clear hf eP;generalize aF raw=F at *;obtain⟨l,at_,e⟩:=F;dsimp only at c1 c2 c3 c4 c5 hr;generalize bR l tx0=T at *;obtain⟨t,ok⟩:=T;dsimp only at c1 c2 c3 c4 c5 hr;generalize fY t=fs at *;generalize ef t=vt at *;have hb:(fs == raw)=true↔fs=raw:=sm;generalize (fs == raw)=b at *;by_cases he:e=0
 ·subst he;cases ok with
  | false=>
   rw [if_pos sm] at hr;simp only [a₀] at hr;obtain⟨rfl,rfl⟩:=hr;refine dK seat Tryz.func91 46 ?_;refine aa ?_;(iterate 12 ((all_goals(refine aa ?_));(all_goals(first | (refine ah rfl aA rfl (c1) rfl rfl ?_) | (refine ah rfl aA rfl (c2) rfl rfl ?_) | (refine ah rfl aA rfl (c3) rfl rfl ?_) | (refine ah rfl aA rfl (src (c4)) rfl rfl ?_) | (refine ah rfl aA rfl (src (c5)) rfl rfl ?_) | ((first | refine ag rfl rfl ?_ rfl ?_ | refine ad rfl ?_ ?_);all_goals(intro h;(try simp only [pl] at h);(try (exfalso;omega)))) | skip))));all_goals(refine au ?_;exact en [_,_])
  | true=>
   cases b with
   | false=>
    have gf:fs≠raw:=fun e=>by have:=hb.2 e;simp at this
    rw [if_pos (by simp [gf])] at hr;simp only [a₀] at hr;obtain⟨rfl,rfl⟩:=hr;refine dK seat Tryz.func91 46 ?_;refine aa ?_;(iterate 12 ((all_goals(refine aa ?_));(all_goals(first | (refine ah rfl aA rfl (c1) rfl rfl ?_) | (refine ah rfl aA rfl (c2) rfl rfl ?_) | (refine ah rfl aA rfl (c3) rfl rfl ?_) | (refine ah rfl aA rfl (src (c4)) rfl rfl ?_) | (refine ah rfl aA rfl (src (c5)) rfl rfl ?_) | ((first | refine ag rfl rfl ?_ rfl ?_ | refine ad rfl ?_ ?_);all_goals(intro h;(try simp only [pl] at h);(try (exfalso;omega)))) | skip))));all_goals(refine au ?_;exact en [_,_])
   | true=>
    have heq:fs=raw:=hb.1 rfl;rw [if_neg (by simp [heq])] at hr;by_cases hv:vt=0
    ·subst hv;rw [if_neg sm] at hr;simp only [a₀] at hr;obtain⟨rfl,rfl⟩:=hr;refine dK seat Tryz.func91 46 ?_;refine aa ?_;(iterate 12 ((all_goals(refine aa ?_));(all_goals(first | (refine ah rfl aA rfl (c1) rfl rfl ?_) | (refine ah rfl aA rfl (c2) rfl rfl ?_) | (refine ah rfl aA rfl (c3) rfl rfl ?_) | (refine ah rfl aA rfl (src (c4)) rfl rfl ?_) | (refine ah rfl aA rfl (src (c5)) rfl rfl ?_) | ((first | refine ag rfl rfl ?_ rfl ?_ | refine ad rfl ?_ ?_);all_goals(intro h;(try simp only [pl] at h);(try (exfalso;omega)))) | skip))));all_goals(refine au ?_;exact en [_,_])
    ·rw [if_pos hv] at hr;simp only [a₀] at hr;obtain⟨rfl,rfl⟩:=hr;refine dK seat Tryz.func91 46 ?_;refine aa ?_;(iterate 12 ((all_goals(refine aa ?_));(all_goals(first | (refine ah rfl aA rfl (c1) rfl rfl ?_) | (refine ah rfl aA rfl (c2) rfl rfl ?_) | (refine ah rfl aA rfl (c3) rfl rfl ?_) | (refine ah rfl aA rfl (src (c4)) rfl rfl ?_) | (refine ah rfl aA rfl (src (c5)) rfl rfl ?_) | ((first | refine ag rfl rfl ?_ rfl ?_ | refine ad rfl ?_ ?_);all_goals(intro h;(try simp only [pl] at h);(try (exfalso;omega)))) | skip))));all_goals(refine au ?_;exact en [_,_])
 ·rw [if_pos (.inl he)] at hr;simp only [a₀] at hr;obtain⟨rfl,rfl⟩:=hr;refine dK seat Tryz.func91 46 ?_;refine aa ?_;(iterate 12 ((all_goals(refine aa ?_));(all_goals(first | (refine ah rfl aA rfl (c1) rfl rfl ?_) | (refine ah rfl aA rfl (c2) rfl rfl ?_) | (refine ah rfl aA rfl (c3) rfl rfl ?_) | (refine ah rfl aA rfl (src (c4)) rfl rfl ?_) | (refine ah rfl aA rfl (src (c5)) rfl rfl ?_) | ((first | refine ag rfl rfl ?_ rfl ?_ | refine ad rfl ?_ ?_);all_goals(intro h;(try simp only [pl] at h);(try (exfalso;omega)))) | skip))));all_goals(refine au ?_;exact en [_,_])
structure bd where
 name:List UInt8
 bal:Nat
 seq:Nat
def aV (a:bd):MV:= .st [.str a.name, .int .u64 a.bal, .int .u64 a.seq]
def SmAc (a:bd):Prop:=a.name.length≤5000∧bm a.bal∧bm a.seq
def ac0:bd:=⟨[],0,0⟩
structure eh where
 acs:List bd
 col:Nat
def eo (l:eh):MV:= .st [.sl l.acs.length (l.acs.map aV), .int .u64 l.col]
def jA (a b:Nat):Nat×Bool:=if a + b < 18446744073709551616 then(a + b,true) else(0,false)
theorem fN {l:List bd} {k:Nat} (hk:k < l.length):bI (l.map aV) l.length (k:Int)=some (aV l[k]):=dB hk (by simp [hk])
theorem Si (a b:Nat) (ha:bm a) (hb:bm b):aE Tryz.prog G 127 [.int .u64 a, .int .u64 b] (.tup [.int .u64 (jA a b).1, .bool (jA a b).2]):=by
 unfold bm at ha hb;generalize hr:jA a b=r;obtain⟨R,Oo⟩:=r;unfold jA at hr;dsimp only;split at hr
 ·rename_i h;simp only [a₀] at hr;obtain⟨rfl,rfl⟩:=hr;refine bA seat Tryz.func127 13 ?_;refine aa ?_;(iterate 4 ((all_goals(refine aa ?_));(all_goals(first | ((first | refine ag rfl rfl ?_ rfl ?_ | refine ad rfl ?_ ?_);all_goals(intro h;(try simp only [pl] at h);(try (exfalso;omega)))) | skip))));all_goals(refine au ?_)
  all_goals rfl
 ·rename_i h;simp only [a₀] at hr;obtain⟨rfl,rfl⟩:=hr;refine bA seat Tryz.func127 13 ?_;refine aa ?_;(iterate 4 ((all_goals(refine aa ?_));(all_goals(first | ((first | refine ag rfl rfl ?_ rfl ?_ | refine ad rfl ?_ ?_);all_goals(intro h;(try simp only [pl] at h);(try (exfalso;omega)))) | skip))));all_goals(refine au ?_)
  all_goals rfl
def gm (name:List UInt8):List bd→Nat→Int
 | [],_=> -1
 | a :: r,i=>if a.name=name then i else gm name r (i + 1)
theorem AU (l:List bd) (name:List UInt8) (hl:l.length≤1000000):aE Tryz.prog G 80 [.sl l.length (l.map aV), .str name] (.int .i64 (gm name l 0)):=by
 generalize hr:gm name l 0=R;refine bA seat Tryz.func80 20 ?_;refine aa ?_;refine av Nat (fun k=> [(9, .int .i64 k),(8, .int .i64 l.length),(7, .sl l.length (l.map aV)),(1, .str name)]) (fun _=> []) 0 (fun k=>k≤l.length∧gm name (l.drop k) k=R) (fun k=>l.length - k) 0 ⟨a₅ _,by rw [a₇];exact hr⟩ (vm [] []) ?_;rintro k ⟨hk,hR⟩;try dsimp only
 refine aa ?_;refine ad rfl ?_ ?_ <;> intro h
 ·have aC:k < l.length:=by have:=ot h;omega
  have aH:=fN aC;rw [a₄ aC,gm] at hR;generalize l[k] =a at *;obtain⟨nm,bal,seq⟩:=a;replace aH:bI (l.map aV) l.length (k:Int)=some (.st [.str nm, .int .u64 bal, .int .u64 seq]):=aH;have aH:=aj.mk aH;dsimp only at hR;by_cases he:nm=name
  ·rw [if_pos he] at hR;subst he;subst hR;refine yu ?_;refine au ?_;rfl
  ·rw [if_neg he] at hR;refine aa ?_;refine ad rfl ?_ ?_ <;> intro h
   ·exact absurd (eq_of_beq h) he
   ·refine aa ?_;exact⟨k + 1,⟨by show k + 1≤l.length;omega,hR⟩,by show l.length - (k + 1) < l.length - k;omega,(by dsimp only;exact(vm [] []))⟩
 ·have aC:k=l.length:=by have:=oF h;omega
  subst aC;rw [b₃,gm] at hR;subst hR;refine aa ?_;refine au ?_;rfl
def limS (n:Int):Nat:=(max 0 (min n 1073741824)).toNat
theorem zj (n:Int) (hn: -9223372036854775808≤n∧n < 9223372036854775808):aE Tryz.prog G 204 [.int .i64 n] (.int .u64 (limS n)):=by
 refine bA seat Tryz.func204 7 ?_;refine aa ?_;refine au ?_;refine congrArg (MV.int .u64) ?_;unfold limS;split <;> split <;> omega
def lG (a b:Nat):Nat×Bool:=if a * b < 18446744073709551616 then(a * b,true) else(0,false)
theorem Wc (a b:Nat) (ha:bm a) (hb:bm b):aE Tryz.prog G 205 [.int .u64 a, .int .u64 b] (.tup [.int .u64 (lG a b).1, .bool (lG a b).2]):=by
 unfold bm at ha hb;have hq:0 < a→(18446744073709551615 / a < b↔18446744073709551615 < b * a):=fun h=>Nat.div_lt_iff_lt_mul h
 have hm:a=0→a * b=0:=fun h=>by rw [h,Nat.zero_mul]
 rw [Nat.mul_comm b a] at hq;have f1:=aX.mk (show IntKind.u64.wrap ((18446744073709551615:Int).tdiv (a:Int))=((18446744073709551615 / a:Nat):Int) from CY (a:=18446744073709551615) a om);have f2:a * b < 18446744073709551616→IntKind.u64.wrap ((a:Int) * (b:Int))=((a * b:Nat):Int):=fun h=>by
  rw [← Int.natCast_mul];exact bS _ om om
 have hz:(18446744073709551615 / a:Nat) < 18446744073709551616:=d₀ (Nat.div_le_self _ _) om;generalize hr:lG a b=r;obtain⟨R,Oo⟩:=r;unfold lG at hr;generalize a * b=m at *;generalize 18446744073709551615 / a=q at *;dsimp only;by_cases h:m < 18446744073709551616
 ·rw [if_pos h] at hr;simp only [a₀] at hr;obtain⟨rfl,rfl⟩:=hr;have f2:=aX.mk (f2 h);refine bA seat Tryz.func205 17 ?_;refine aa ?_;(iterate 6 ((all_goals(refine aa ?_));(all_goals(first | ((first | refine ag rfl rfl ?_ rfl ?_ | refine ad rfl ?_ ?_);all_goals(intro h;(try simp only [pl] at h);(try (exfalso;omega)))) | skip))));all_goals(refine au ?_)
  all_goals rfl
 ·rw [if_neg h] at hr;simp only [a₀] at hr;obtain⟨rfl,rfl⟩:=hr;refine bA seat Tryz.func205 17 ?_;refine aa ?_;(iterate 6 ((all_goals(refine aa ?_));(all_goals(first | ((first | refine ag rfl rfl ?_ rfl ?_ | refine ad rfl ?_ ?_);all_goals(intro h;(try simp only [pl] at h);(try (exfalso;omega)))) | skip))));all_goals(refine au ?_)
  all_goals rfl
def n9 (size trs:Int):Nat:=50 + limS size + 20 * limS trs
theorem Tu (x y:Int) (hx: -9223372036854775808≤x∧x < 9223372036854775808) (hy: -9223372036854775808≤y∧y < 9223372036854775808):aE Tryz.prog G 144 [.int .i64 x, .int .i64 y] (.int .u64 (n9 x y)):=by
 have c1:=zj (G:=G) x hx;have c2:=zj (G:=G) y hy;have l1:limS x≤1073741824:=by unfold limS;omega
 have l2:limS y≤1073741824:=by unfold limS;omega
 unfold n9;generalize limS x=u at *;generalize limS y=v at *;refine bA seat Tryz.func144 13 ?_;refine aa ?_;(iterate 4 ((all_goals(refine aa ?_));(all_goals(first | (refine ah rfl aA rfl (src (c1)) rfl rfl ?_) | (refine ah rfl aA rfl (src (c2)) rfl rfl ?_) | ((first | refine ag rfl rfl ?_ rfl ?_ | refine ad rfl ?_ ?_);all_goals(intro h;(try simp only [pl] at h);(try (exfalso;omega)))) | skip))));all_goals(refine au ?_)
 refine congrArg (MV.int .u64) ?_;omega
def bE (l:List bd) (name:List UInt8):bd×Bool:=match l.find? (fun a=>decide (a.name=name)) with
 | some a=>(a,true)
 | none=>(ac0,false)
theorem mI (name:List UInt8): ∀(l:List bd) (i:Nat),(gm name l i= -1∧l.find? (fun a=>decide (a.name=name))=none)∨∃k a,gm name l i=((i + k:Nat):Int)∧l[k]? =some a∧l.find? (fun a=>decide (a.name=name))=some a
 | [],i=> .inl ⟨rfl,rfl⟩
 | a :: r,i=>by
  by_cases h:a.name=name
  ·exact .inr ⟨0,a,by rw [gm,if_pos h];rfl,rfl,by simp [h]⟩
  ·have hf:(a :: r).find? (fun a=>decide (a.name=name))=r.find? (fun a=>decide (a.name=name)):=by simp [h]
   rw [gm,if_neg h,hf]
   rcases mI name r (i + 1) with h1 | ⟨k,b,h1,h2,h3⟩
   ·exact .inl h1
   ·exact .inr ⟨k + 1,b,by rw [h1];omega,by simpa using h2,h3⟩
theorem Sj (l:List bd) (col:Nat) (name:List UInt8) (hl:l.length≤1000000):aE Tryz.prog G 143 [.st [.sl l.length (l.map aV), .int .u64 col], .str name] (.tup [aV (bE l name).1, .bool (bE l name).2]):=by
 have c1:=AU (G:=G) l name hl;rcases mI name l 0 with ⟨h1,h2⟩ | ⟨k,a,h1,h2,h3⟩
 ·rw [h1] at c1;have e:bE l name=(ac0,false):=by unfold bE;rw [h2]
  rw [e];refine bA seat Tryz.func143 19 ?_;refine aa ?_;(iterate 6 ((all_goals(refine aa ?_));(all_goals(first | (refine ah rfl aA rfl (src (c1)) rfl rfl ?_) | ((first | refine ag rfl rfl ?_ rfl ?_ | refine ad rfl ?_ ?_);all_goals(intro h;(try simp only [pl] at h);(try (exfalso;omega)))) | skip))));all_goals(refine au ?_)
  all_goals rfl
 ·rw [h1,c₅] at c1;have e:bE l name=(a,true):=by unfold bE;rw [h3]
  rw [e];obtain⟨hk,ha⟩:=List.getElem?_eq_some_iff.1 h2;have aH:=fN hk;rw [ha] at aH;obtain⟨nm,bal,seq⟩:=a;replace aH:bI (l.map aV) l.length (k:Int)=some (.st [.str nm, .int .u64 bal, .int .u64 seq]):=aH;have aH:=aj.mk aH;clear h1 h2 h3 e ha;refine bA seat Tryz.func143 19 ?_;refine aa ?_;(iterate 6 ((all_goals(refine aa ?_));(all_goals(first | (refine ah rfl aA rfl (src (c1)) rfl rfl ?_) | ((first | refine ag rfl rfl ?_ rfl ?_ | refine ad rfl ?_ ?_);all_goals(intro h;(try simp only [pl] at h);(try (exfalso;omega)))) | skip))));all_goals(refine au ?_)
  all_goals rfl
def totS:List bd→Nat→Nat×Bool
 | [],s=>(s,true)
 | a :: r,s=>if (jA s a.bal).2 then totS r (jA s a.bal).1 else(0,false)
theorem w4 {a b:Nat}:bm (jA a b).1:=by
 unfold jA bm;split
 ·assumption
 ·show 0 < _;omega
theorem Hi (l:List bd) (col:Nat) (hc:bm col) (hl:l.length≤1000000) (hs: ∀a∈l,bm a.bal):aE Tryz.prog G 82 [.st [.sl l.length (l.map aV), .int .u64 col]] (.tup [.int .u64 (totS l col).1, .bool (totS l col).2]):=by
 generalize hr:totS l col=r;obtain⟨R,Oo⟩:=r;dsimp only;refine bA seat Tryz.func82 30 ?_;refine aa ?_;refine av (Nat×Nat) (fun x=> [(14, .int .i64 x.1),(13, .int .i64 l.length),(12, .sl l.length (l.map aV)),(4, .int .u64 x.2)]) (fun _=> []) 0 (fun x=>x.1≤l.length∧bm x.2∧totS (l.drop x.1) x.2=(R,Oo)) (fun x=>l.length - x.1) (0,col) ⟨a₅ _,hc,by rw [a₇];exact hr⟩ (by dsimp only;exact(vm [] [])) ?_;rintro⟨k,s⟩ ⟨hk,Yz,hR⟩;try dsimp only
 dsimp only at hk Yz hR;refine aa ?_;refine ad rfl ?_ ?_ <;> intro h
 ·have aC:k < l.length:=by have:=ot h;omega
  have aH:=fN aC;have hb:=hs _ (b₂ aC);rw [a₄ aC,totS] at hR;generalize l[k] =a at *;obtain⟨nm,bal,seq⟩:=a;replace aH:bI (l.map aV) l.length (k:Int)=some (.st [.str nm, .int .u64 bal, .int .u64 seq]):=aH;have aH:=aj.mk aH;dsimp only at hR hb;have c1:=Si (G:=G) s bal Yz hb;have hU:= @w4 s bal;generalize jA s bal=p at *;obtain⟨v,b⟩:=p;dsimp only at c1 hR hU;cases b with
  | true=>
   rw [if_pos rfl] at hR;refine aa ?_;(iterate 6 ((all_goals(refine aa ?_));(all_goals(first | (refine ah rfl aA rfl (src (c1)) rfl rfl ?_) | ((first | refine ag rfl rfl ?_ rfl ?_ | refine ad rfl ?_ ?_);all_goals(intro h;(try simp only [pl] at h);(try (exfalso;omega)))) | skip))));exact⟨(k + 1,v),⟨by show k + 1≤l.length;omega,hU,hR⟩,by show l.length - (k + 1) < l.length - k;omega,(by dsimp only;exact(vm [] []))⟩
  | false=>
   rw [if_neg sm] at hR;simp only [a₀] at hR;obtain⟨rfl,rfl⟩:=hR;refine aa ?_;(iterate 6 ((all_goals(refine aa ?_));(all_goals(first | (refine ah rfl aA rfl (src (c1)) rfl rfl ?_) | ((first | refine ag rfl rfl ?_ rfl ?_ | refine ad rfl ?_ ?_);all_goals(intro h;(try simp only [pl] at h);(try (exfalso;omega)))) | skip))));all_goals(refine au ?_)
   all_goals rfl
 ·have aC:k=l.length:=by have:=oF h;omega
  subst aC;rw [b₃,totS] at hR;simp only [a₀] at hR;obtain⟨rfl,rfl⟩:=hR;refine aa ?_;refine au ?_;rfl
end
end Go.Proofs.YtohikcplmbkmeaaGreatDoor
