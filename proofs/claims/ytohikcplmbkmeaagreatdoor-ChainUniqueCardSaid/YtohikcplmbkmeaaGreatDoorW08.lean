/- Parts of a proof, one behind the other: PA, PB, PC, N2, PD, PF, PK, PE, PL, PI. -/
import Derived.Test.YtohikcplmbkmeaaGreatDoorW07
open And renaming intro → a₀
open Bool renaming noConfusion → a₁,and_eq_true → c₉
open List renaming length_append → a₂,drop_eq_getElem_cons → a₄,map_append → a₅,nil_append → a₆,take_succ_eq_append_getElem → a₈,getElem_mem → a₉,length_drop → b₀,length_take → b₂,length_singleton → b₃,drop_length → b₄,mem_append → b₅,mem_of_mem_drop → b₆,mem_cons_of_mem → b₇,drop_zero → b₈,mem_cons_self → b₉,mem_of_mem_take → c₀,length_map → c₁,mem_singleton → c₂,take_of_length_le → c₅,take_length → c₆,length_cons → c₇,mem_cons → c₈,append_nil → d₀,getElem_cons_succ → d₁,sum_append → d₃,length_set → d₄,replicate → d₅
open Nat renaming le_refl → a₃,zero_le → a₇,zero_add → b₁,le_of_eq → c₃,le_trans → d₂
open Int renaming toNat_natCast → c₄
set_option maxRecDepth 20000
set_option maxHeartbeats 16000000
set_option linter.unusedVariables false
set_option linter.unusedSimpArgs false
namespace Go.Proofs.YtohikcplmbkmeaaGreatDoor
open Go.RowKit
section
variable {G:GS}
attribute [local irreducible] ak aB aD aI aN vC aW aw
structure eY where
 key:List UInt8
 raw:List UInt8
 sender:List UInt8
 seq:Int
 gas:Int
 prio:Int
 height:Int
 time:Int
 order:Int
 peers:List Int
def bN (e:eY):MV:= .st [keyM e.key, .sl e.raw.length (u8s e.raw), .str e.sender, .int .u64 e.seq, .int .u64 e.gas, .int .u64 e.prio, .int .i64 e.height, .int .i64 e.time, .int .i64 e.order,iQ e.peers]
theorem eG {l:List eY} {k:Nat} (hk:k < l.length):bF (l.map bN) l.length (k:Int)=some (bN l[k]):=cO hk (by simp [hk])
def bytesS (l:List eY):Nat:=(l.map fun e=>e.raw.length).sum
theorem jL (l:List eY) {k:Nat} (hk:k < l.length):bytesS (l.take (k + 1))=bytesS (l.take k) + l[k].raw.length:=by
 unfold bytesS;rw [a₈ hk,a₅,d₃];simp
theorem wA (l:List eY) (B:Nat) (hok: ∀e∈l,e.raw.length≤B) (k:Nat):bytesS (l.take k)≤B * k:=by
 induction k with
 | zero=>simp [bytesS]
 | succ k ih=>
  rcases Nat.lt_or_ge k l.length with h | h
  ·rw [jL l h,Nat.mul_succ];have:=hok _ (a₉ h);omega
  ·rw [c₅ om];rw [c₅ h] at ih;rw [Nat.mul_succ];omega
theorem Kz (l:List eY) (hl:l.length < 1000000) (hok: ∀e∈l,e.raw.length≤1000000):aE Tryz.prog G 258 [.sl l.length (l.map bN)] (.int .i64 (bytesS l)):=by
 refine bA seat Tryz.func258 19 ?_;refine aa ?_;refine av Nat (fun k=> [(8, .int .i64 k),(7, .int .i64 l.length),(6, .sl l.length (l.map bN)),(3, .int .i64 (bytesS (l.take k)))]) (fun _=> []) 0 (fun k=>k≤l.length) (fun k=>l.length - k) 0 (a₇ _) (vm [] []) ?_;intro k hk;try dsimp only
 refine aa ?_;refine ad rfl ?_ ?_ <;> intro h
 ·have hk':k < l.length:=by have:=ot h;omega
  have hke:=hok _ (a₉ hk');have hb:=wA l 1000000 hok k;have hs:=jL l hk';have hel:=eG hk';generalize l[k] =e at *;generalize hv:bytesS (l.take k)=v at *;have hel:=aj.mk hel;refine aa ?_;exact⟨k + 1,by show k + 1≤l.length;omega,by show l.length - (k + 1) < l.length - k;omega,(by dsimp only;rw [hs];exact(vm [] []))⟩
 ·have hk':k=l.length:=by have:=oF h;omega
  subst hk';rw [c₆];refine aa ?_;refine au ?_;rfl
def vB (x y:eY):Bool:=decide (x.prio < y.prio∨(x.prio=y.prio∧y.order < x.order))
def sj (e:eY):List eY→List eY
 | [] => [e]
 | y :: l=>bif vB y e then y :: sj e l else e :: y :: l
def KA:List eY→List eY
 | [] => []
 | e :: l=>sj e (KA l)
def bO (l:List eY):List eY:=KA l.reverse
def Ah (c b s t m:Int):Bool:=decide (c < t∧0≤m∧b + max s 0≤m)
theorem wB (e:eY): ∀l,(sj e l).Perm (e :: l)
 | [] => .refl _
 | y :: l=>by
  unfold sj
  cases vB y e with
  | true=>exact ((wB e l).cons y).trans (.swap e y l)
  | false=>exact .refl _
theorem wC: ∀l,(KA l).Perm l
 | [] => .refl _
 | e :: l=>(wB e (KA l)).trans ((wC l).cons e)
theorem oz (l:List eY):(bO l).Perm l:=(wC _).trans (List.reverse_perm l)
theorem B9 {a b:List eY} (h:a.Perm b):bytesS a=bytesS b:=by
 unfold bytesS
 induction h with
 | nil=>rfl
 | cons x _ ih=>simp [ih]
 | swap x y l=>simp;omega
 | trans _ _ h1 h2=>exact h1.trans h2
def selG (p s t m:Int):List eY→Int→Int→List eY×Int×Int
 | [],c,b=>([],c,b)
 | e :: l,c,b=>match Ah c b s t m || decide (p≤e.prio) with
  | true=>([],c,b)
  | false=>match selG p s t m l (c - 1) (b - e.raw.length) with
   | (v,c',b')=>(e :: v,c',b')
def mH (p s t m:Int) (l:List eY):List (List UInt8)×Bool:=match selG p s t m (bO l) l.length (bytesS l) with
 | (v,c,b)=>match Ah c b s t m with
  | true=>(v.map (·.key),true)
  | false=>([],false)
theorem Ip {O:List eY} {n k:Nat} (hn:O.length=n) (hk:k < n):bF (O.map bN) n (k:Int)=some (bN (O[k]'om)):=by subst hn;exact eG hk
theorem pY (l:List eY) (k:Nat):bytesS (l.take k) + bytesS (l.drop k)=bytesS l:=by
 unfold bytesS;rw [← d₃,← a₅,List.take_append_drop]
def MK (x:List (List UInt8)×Bool):MV:= .tup [.sl x.1.length (x.1.map keyM), .bool x.2]
def KC (p s t m:Int) (O:List eY) (n B k:Nat):Prop:= ∃v c b,selG p s t m (O.drop k) ((n:Int) - k) ((B:Int) - bytesS (O.take k))=(v,c,b)∧selG p s t m O n B=(O.take k ++ v,c,b)
theorem wD {p s t m:Int} {O:List eY} {n B k:Nat} (hk:k < O.length) (h:KC p s t m O n B k) (hr:(Ah ((n:Int) - k) ((B:Int) - bytesS (O.take k)) s t m || decide (p≤O[k].prio))=false):KC p s t m O n B (k + 1):=by
 obtain⟨v,c,b,h1,h2⟩:=h;rw [a₄ hk,selG,hr] at h1;generalize hg:selG p s t m (O.drop (k + 1)) ((n:Int) - k - 1) ((B:Int) - bytesS (O.take k) - O[k].raw.length)=r at h1;obtain⟨v',c',b'⟩:=r;dsimp only at h1;injection h1 with e1 e2
 injection e2 with e2 e3
 subst e1 e2 e3;refine⟨v',c',b',?_,?_⟩
 ·rw [jL O hk];rw [← hg];congr 1 <;> omega
 ·rw [h2,a₈ hk,List.append_assoc];rfl
theorem pZ {p s t m:Int} {O:List eY} {n B k:Nat} (h:KC p s t m O n B k) (hr:k=O.length∨∃hk:k < O.length,(Ah ((n:Int) - k) ((B:Int) - bytesS (O.take k)) s t m || decide (p≤O[k].prio))=true) :
  selG p s t m O n B=(O.take k,(n:Int) - k,(B:Int) - bytesS (O.take k)):=by
 obtain⟨v,c,b,h1,h2⟩:=h
 rcases hr with rfl | ⟨hk,hr⟩
 ·rw [b₄,selG] at h1
  injection h1 with e1 e2
  injection e2 with e2 e3
  subst e1 e2 e3
  rw [h2,d₀]
 ·rw [a₄ hk,selG,hr] at h1
  injection h1 with e1 e2
  injection e2 with e2 e3
  subst e1 e2 e3
  rw [h2,d₀]
theorem Dr (e:eY): ∀(out:List eY) (k:Nat),k≤out.length→(∀j (hj:j < out.length),j < k→vB out[j] e=true)→(∀hk:k < out.length,vB out[k] e=false)→sj e out=out.take k ++ e :: out.drop k
 | [],k,_,_,_=>by simp [sj]
 | y :: out,0,_,_,h2=>by
  have:=h2 sm
  unfold sj
  simp at this
  rw [this];rfl
 | y :: out,k + 1,hk,h1,h2=>by
  have h0:=h1 0 sm om
  unfold sj
  simp at h0
  rw [h0]
  have:=Dr e out k (by simpa using hk) (fun j hj hjk=>by have:=h1 (j + 1) (by simpa using hj) om;rwa [d₁] at this) (fun hk=>by have:=h2 (by simpa using hk);rwa [d₁] at this)
  rw [this];rfl
theorem Ca (l:List eY) {i:Nat} (hi:i < l.length):bO (l.take (i + 1))=sj l[i] (bO (l.take i)):=by
 unfold bO;rw [a₈ hi,List.reverse_append];rfl
theorem rj (l:List eY):(bO l).length=l.length:=(oz l).length_eq
theorem eL: ∀(l:List eY),aY (l.map bN) 41=true
 | [] =>rfl
 | _ :: _=>rfl
theorem Iq (l:List eY) (hl:l.length < 1000000):aQ Tryz.prog G 259 [.sl l.length (l.map bN)] [] 0 (.sl l.length ((bO l).map bN)) [] 0:=by
  rw [show (.sl l.length ((bO l).map bN):MV)= .sl (bO l).length ((bO l).map bN) by rw [rj]];refine dw seat Tryz.func259 63 ?_;refine aa ?_;refine av (Nat×List eY) (fun x=> [(9, .int .i64 x.1),(8, .int .i64 l.length),(7, .sl l.length (l.map bN)),(3, .sl x.2.length (x.2.map bN))]) (fun _=> []) 0 (fun x=>x.1≤l.length∧x.2=bO (l.take x.1)) (fun x=>l.length - x.1) (0,[]) ⟨a₇ _,rfl⟩ (by dsimp only;exact(vm [] [])) ?_;rintro⟨i,out⟩ ⟨hi,hout⟩;try dsimp only
  dsimp only at hi hout;refine aa ?_;refine ad rfl ?_ ?_ <;> intro h
  · have hi':i < l.length:=by have:=ot h;omega
    have hol:out.length=i:=by rw [hout,rj];simp;omega
    have hnext:=Ca l hi';rw [← hout] at hnext;have hel:=eG hi';generalize l[i] =e at *;have hel:=aj.mk hel;clear hout;refine aa ?_;refine pj Nat (fun k=> [(6, .int .i64 k),(5, .ptr 0 41 0 0 []),(9, .int .i64 i),(8, .int .i64 l.length),(7, .sl l.length (l.map bN)),(3, .sl out.length (out.map bN))]) (fun _=> [(0,⟨215,41,false,0,[bN e]⟩)]) (fun _=>1) (fun k=>k≤out.length∧sj e out=out.take k ++ e :: out.drop k) (fun JQ hj=>?_) (fun k hIk=>?_)
    · refine av Nat (fun k=> [(6, .int .i64 k),(5, .ptr 0 41 0 0 []),(9, .int .i64 i),(8, .int .i64 l.length),(7, .sl l.length (l.map bN)),(3, .sl out.length (out.map bN))]) (fun _=> [(0,⟨215,41,false,0,[bN e]⟩)]) 1 (fun k=>k≤out.length∧∀j (hj:j < out.length),j < k→vB out[j] e=true) (fun k=>out.length - k) 0 ⟨a₇ _,fun j hj h=>absurd h (Nat.not_lt_zero _)⟩ (vm [(0,_)] []) ?_;rintro k ⟨hki,hpre⟩;try dsimp only
      have step: ∀hk:k < out.length,vB out[k] e=true→(k + 1≤out.length∧∀j (hj:j < out.length),j < k + 1→vB out[j] e=true):=fun hk hb=>⟨om,fun j hj hjk=>by
        rcases Nat.lt_or_ge j k with h | h
        · exact hpre j hj h
        · have:j=k:=om;subst this;exact hb⟩
      have done:(∀hk:k < out.length,vB out[k] e=false)→k≤out.length∧sj e out=out.take k ++ e :: out.drop k:=fun h=>⟨hki,Dr e out k hki hpre h⟩
      clear hpre;refine aa ?_;refine al [ae 0,ae 1,ae 2,ae 3,ae 4,ae 5,ae 6,ae 7,ae 8,ae 9,ae 10,ae 11,ae 12,ae 13,ae 14,ae 15,ae 16,ae 17,ae 18,ae 19,ae 20,ae 21,ae 22,ae 23,ae 24,ae 25,ae 26,ae 27,ae 28,ae 29,ae 30,ae 31,ae 32,ae 33] ?_;refine aa ?_;refine eP rfl rfl ?_ rfl ?_ <;> intro h
      · have hk:k < out.length:=by have:=ot h;omega
        have hrow:=eG hk;replace step:=step hk;replace done:=fun hb:vB out[k] e=false=>done fun _=>hb
        generalize out[k] =b at *;have hrow:=aj.mk hrow;obtain⟨b1,b2,b3,b4,b5,b6,b7,b8,b9,b10⟩:=b;obtain⟨e1,e2,e3,e4,e5,e6,e7,e8,e9,e10⟩:=e;unfold vB at step done;unfold bN at hrow ⊢;dsimp only at step done hrow ⊢;refine aa ?_;refine eP rfl rfl ?_ rfl ?_ <;> intro h
        · have hp1:=oF h;refine aa ?_;refine eP rfl rfl ?_ rfl ?_ <;> intro h
          · have hp2:b6=e6:=by simpa using h
            refine aa ?_;refine ad rfl ?_ ?_ <;> intro h
            · have hp3:=ot h;refine aa ?_;exact⟨k + 1,step (decide_eq_true om),by show out.length - (k + 1) < out.length - k;omega,(by dsimp only;exact(vm [(0,_)] []))⟩
            · have hp3:=oF h;refine aa ?_;exact hj.nrm k (done (decide_eq_false om)) (vm [(0,_)] [])
          · have hp2:b6≠e6:=by simpa using h
            refine aa ?_;exact hj.nrm k (done (decide_eq_false om)) (vm [(0,_)] [])
        · have hp1:b6 < e6:=by simpa using h
          refine aa ?_;exact⟨k + 1,step (decide_eq_true om),by show out.length - (k + 1) < out.length - k;omega,(by dsimp only;exact(vm [(0,_)] []))⟩
      · have hk: ¬ k < out.length:=by
          have: ¬ ((k:Int) < out.length):=by simpa using h
          omega
        refine aa ?_;exact hj.nrm k (done fun h=>absurd h hk) (vm [(0,_)] [])
    · obtain⟨hki,hZ⟩:=hIk;generalize sj e out=Z at *;have hZl:Z.length=out.length + 1:=by rw [hZ];simp;omega
      replace hZ:out.take k ++ e :: out.drop k=Z:=hZ.symm;have fb1:=aj.mk (jo (n:=out.length) (k:=k) (κ:= .i64) hki);have fb2:=aj.mk (fW (n:=out.length) (k:=k) (κ:= .i64) hki);have fb3:=bE.mk (eL out);try dsimp only
      refine aa ?_;refine al [ae 0,ae 1,ae 2,ae 3,ae 4,ae 5,ae 6,ae 7,ae 8,ae 9,ae 10,ae 11,ae 12] ?_;refine aa ?_;refine aZ rfl (by intro R hR;refine cI hR ?_;refine a₀ ((by show aY (cutL _ 0 k) 41=true;rw [cut_take];exact eL _)) ?_;refine a₀ ⟨rfl,ai (by kernel_rfl) pf⟩ ?_;refine⟨(out.take k).map bN,sv (by show [] ++ cutL _ 0 k=_;rw [a₆,cut_take]),k,sv pf,?_⟩;exact hR) rfl ?_;refine aa ?_;refine aZ rfl (by intro R hR;refine cI hR ?_;(refine a₀ (a₃ _) ?_;refine⟨_,rfl,?_⟩;refine a₀ ⟨(by simp <;> omega),ai (by kernel_rfl) pf⟩ ?_;refine⟨(out.take k ++ [e]).map bN,sv (by rw [a₅];rfl),k+1,sv pf,?_⟩);exact hR) rfl ?_;refine aa ?_;refine aZ rfl (by intro R hR;refine cI hR ?_;refine a₀ ((by show aY (cutL _ k out.length) 41=true;rw [dN];exact eL _)) ?_;refine a₀ ⟨(by simp <;> omega),ai (by kernel_rfl) pf⟩ ?_;refine⟨Z.map bN,sv (by rw [← hZ];show _ ++ cutL _ k out.length=_;rw [dN];simp),Z.length,sv pf,?_⟩;exact hR) rfl ?_;refine aa ?_;exact⟨(i + 1,Z),⟨dm,hnext.symm⟩,dm,(by dsimp only;exact(vm [] [(12,Z.length)]))⟩
  · have hi':i=l.length:=by have:=oF h;omega
    subst hi';rw [c₆] at hout;subst hout;refine aa ?_;refine au ?_;exact en [_]
theorem Ir (a b m:Int) (ha:0≤a∧a < 4611686018427387904) (hb:0≤b∧b < 9223372036854775808) (hm: -9223372036854775808≤m∧m < 9223372036854775808) :
  aE Tryz.prog G 260 [.int .i64 a, .int .i64 b, .int .i64 m] (.bool (decide (a≤m∧b≤m - a))):=by
 refine bA seat Tryz.func260 17 ?_
 refine aa ?_
 refine ag rfl rfl ?_ rfl ?_ <;> intro h
 ·have h1:a≤m:=by simpa using h
  refine aa ?_
  refine au ?_
  exact congrArg MV.bool (decide_eq_decide.2 om)
 ·have h1: ¬ a≤m:=by simpa using h
  refine aa ?_
  refine au ?_
  exact congrArg MV.bool (decide_eq_false om).symm
theorem KD {n k B b:Nat} {s t m:Int} {c:Int} (hc:c=(n:Int) - k) (hb:b≤B):Ah c ((B:Int) - b) s t m=decide ((n:Int) + 1 - k≤t∧((B:Int) - b≤m∧max s 0≤m - ((B:Int) - b))):=by
 subst hc;exact decide_eq_decide.2 om
theorem Oc (s:Int):(if (0:Int) > s then 0 else s)=max s 0:=by
 by_cases hs:(0:Int) > s
 ·rw [if_pos hs];omega
 ·rw [if_neg hs];omega
theorem Fc (l:List eY) (hl:l.length < 1000000) (hok: ∀e∈l,e.raw.length≤1000000) (p s t m:Int) (hs: -9223372036854775808≤s∧s < 9223372036854775808) (hm: -9223372036854775808≤m∧m < 9223372036854775808) :
  aQ Tryz.prog G 223 [.sl l.length (l.map bN), .int .u64 p, .int .i64 s, .int .i64 t, .int .i64 m] [] 0 (MK (mH p s t m l)) [] 0:=by
 have hOp:=oz l
 have hOl:(bO l).length=l.length:=hOp.length_eq
 have hOb:bytesS (bO l)=bytesS l:=B9 hOp
 have hord:=Iq (G:=G) l hl
 have hB:=wA l 1000000 hok l.length
 rw [c₆] at hB
 unfold MK
 refine dw seat Tryz.func223 68 ?_
 (have fct:=aU.mk (Oc s);refine aa ?_)
 refine dL (Kz l hl hok) ?_
 refine jW (hord) ?_
 refine av Nat (fun k=> [(27, .int .i64 k),(26, .int .i64 l.length),(25, .sl l.length ((bO l).map bN)),(14, .ms 0 32 0 k),(13, .int .i64 ((bytesS l:Int) - bytesS ((bO l).take k))),(12, .int .i64 ((l.length:Int) + 1 - k)),(4, .int .i64 m),(3, .int .i64 t),(2, .int .i64 (max s 0)),(1, .int .u64 p)]) (fun k=> [(0,⟨68,32,true,0,((bO l).take k).map fun e=>keyM e.key⟩)]) 1 (fun k=>k≤l.length∧KC p s t m (bO l) l.length (bytesS l) k) (fun k=>l.length - k) 0 ⟨a₇ _,?_⟩ ?_ ?_
 ·refine⟨(selG p s t m (bO l) l.length (bytesS l)).1,(selG p s t m (bO l) l.length (bytesS l)).2.1,(selG p s t m (bO l) l.length (bytesS l)).2.2,?_,rfl⟩
  simp [bytesS]
 ·try dsimp only
  rw [show ((bytesS l:Int) - bytesS ((bO l).take 0))=bytesS l by simp [bytesS]]
  exact(vm [] [])
 rintro k ⟨hk1,hI⟩
 try dsimp only
 have hbk:bytesS ((bO l).take k)≤bytesS l:=by
  have:=pY (bO l) k
  omega
 have hre:=KD (s:=s) (t:=t) (m:=m) (n:=l.length) (k:=k) rfl hbk
 refine aa ?_
 refine ad rfl ?_ ?_ <;> intro h
 ·have hk':k < l.length:=by have:=ot h;omega
  have hkO:k < (bO l).length:=om
  have hs2:=jL (bO l) hkO
  have hbk2:bytesS ((bO l).take (k + 1))≤bytesS l:=by
   have:=pY (bO l) (k + 1)
   omega
  (have fct:=aj.mk (Ip hOl hk');refine aa ?_)
  refine ag rfl rfl ?_ rfl ?_ <;> intro h
  ·have h1:=ot h
   refine aa ?_
   refine dL (Ir ((bytesS l:Int) - bytesS ((bO l).take k)) (max s 0) m om om hm) ?_
   refine ad rfl ?_ ?_ <;> intro h
   ·have h2:=ot h
    have hroom:=hre.trans (decide_eq_true ⟨h1,h2⟩)
    have hsel:=pZ hI (.inr ⟨hkO,by rw [hroom];rfl⟩)
    rw [show mH p s t m l=(((bO l).take k).map (·.key),true) by unfold mH;rw [hsel];simp only [hroom]]
    refine aa ?_
    refine⟨[_,_],[],[(0,k)],rfl,rfl,?_,rfl,⟨?_,?_,trivial⟩,?_⟩
    ·exact⟨by show k≤(((bO l).take k).map fun e=>keyM e.key).length;simp;omega,trivial⟩
    ·exact .inr ⟨rfl,rfl,by simp;omega,by simp;omega,by rw [List.map_map,c₁];exact bc (fun e:eY=>keyM e.key) _⟩
    ·exact rv
    ·exact mm
   ·have h2:=oF h
    have hroom:=hre.trans (decide_eq_false fun h=>h2 h.2)
    refine aa ?_
    refine ad rfl ?_ ?_ <;> intro h
    ·have hp:=ot h
     have hsel:=pZ hI (.inr ⟨hkO,by rw [hroom];simpa using hp⟩)
     rw [show mH p s t m l=([],false) by unfold mH;rw [hsel];simp only [hroom]]
     refine aa ?_
     exact en [_,_]
    ·have hp:=oF h
     have hstep:=wD hkO hI (by rw [hroom];simpa using hp)
     refine aa ?_
     refine aL rfl rfl (by intro R hR;refine cI hR ?_;(refine a₀ (a₃ _) ?_;refine⟨_,rfl,?_⟩;refine a₀ ⟨(by simp;omega),ai (by kernel_rfl) pf⟩ ?_;refine⟨((bO l).take (k + 1)).map fun e=>keyM e.key,sv (by rw [a₈ hkO,a₅];rfl),k + 1,sv pf,?_⟩);exact hR) rfl ?_
     refine aa ?_
     exact⟨k + 1,⟨om,hstep⟩,by show l.length - (k + 1) < l.length - k;omega,(by dsimp only;exact(vm [(0,_)] []))⟩
  ·have h1: ¬ ((l.length:Int) + 1 - k≤t):=by simpa using h
   have hroom:=hre.trans (decide_eq_false fun h=>h1 h.1)
   refine aa ?_
   refine ad rfl ?_ ?_ <;> intro h
   ·have hp:=ot h
    have hsel:=pZ hI (.inr ⟨hkO,by rw [hroom];simpa using hp⟩)
    rw [show mH p s t m l=([],false) by unfold mH;rw [hsel];simp only [hroom]]
    refine aa ?_
    exact en [_,_]
   ·have hp:=oF h
    have hstep:=wD hkO hI (by rw [hroom];simpa using hp)
    refine aa ?_
    refine aL rfl rfl (by intro R hR;refine cI hR ?_;(refine a₀ (a₃ _) ?_;refine⟨_,rfl,?_⟩;refine a₀ ⟨(by simp;omega),ai (by kernel_rfl) pf⟩ ?_;refine⟨((bO l).take (k + 1)).map fun e=>keyM e.key,sv (by rw [a₈ hkO,a₅];rfl),k + 1,sv pf,?_⟩);exact hR) rfl ?_
    refine aa ?_
    exact⟨k + 1,⟨om,hstep⟩,by show l.length - (k + 1) < l.length - k;omega,(by dsimp only;exact(vm [(0,_)] []))⟩
 ·have hk':k=l.length:=by have:=oF h;omega
  have hsel:=pZ hI (.inl om)
  refine aa ?_
  refine ag rfl rfl ?_ rfl ?_ <;> intro h
  ·have h1:=ot h
   refine aa ?_
   refine dL (Ir ((bytesS l:Int) - bytesS ((bO l).take k)) (max s 0) m om om hm) ?_
   refine ad rfl ?_ ?_ <;> intro h
   ·have h2:=ot h
    have hroom:=hre.trans (decide_eq_true ⟨h1,h2⟩)
    rw [show mH p s t m l=(((bO l).take k).map (·.key),true) by unfold mH;rw [hsel];simp only [hroom]]
    refine aa ?_
    refine⟨[_,_],[],[(0,k)],rfl,rfl,?_,rfl,⟨?_,?_,trivial⟩,?_⟩
    ·exact⟨by show k≤(((bO l).take k).map fun e=>keyM e.key).length;simp;omega,trivial⟩
    ·exact .inr ⟨rfl,rfl,by simp;omega,by simp;omega,by rw [List.map_map,c₁];exact bc (fun e:eY=>keyM e.key) _⟩
    ·exact rv
    ·exact mm
   ·have h2:=oF h
    have hroom:=hre.trans (decide_eq_false fun h=>h2 h.2)
    rw [show mH p s t m l=([],false) by unfold mH;rw [hsel];simp only [hroom]]
    refine aa ?_
    exact en [_,_]
  ·have h1: ¬ ((l.length:Int) + 1 - k≤t):=by simpa using h
   have hroom:=hre.trans (decide_eq_false fun h=>h1 h.1)
   rw [show mH p s t m l=([],false) by unfold mH;rw [hsel];simp only [hroom]]
   refine aa ?_
   exact en [_,_]
end
section
variable {G:GS}
attribute [local irreducible] ak aB aD aI aN vC aW aw
theorem p8 {l:List (List UInt8)} {k:Nat} (hk:k < l.length):bF (l.map keyM) l.length (k:Int)=some (keyM l[k]):=cO hk (by simp [hk])
def hJ (k:List UInt8):List (List UInt8)→Nat→Int
 | [],_=> -1
 | a :: r,i=>if a=k then i else hJ k r (i + 1)
theorem kB (k:List UInt8): ∀(l:List (List UInt8)) (i:Nat),hJ k l i= -1∨∃j,hJ k l i=((i + j:Nat):Int)∧j < l.length
 | [],_=> .inl rfl
 | a :: r,i=>by
  unfold hJ
  split
  ·exact .inr ⟨0,rfl,sm⟩
  ·rcases kB k r (i + 1) with h | ⟨j,h,hj⟩
   ·exact .inl h
   ·exact .inr ⟨j + 1,by rw [h];omega,by simp;omega⟩
theorem xY (l:List (List UInt8)) (key:List UInt8) (hl:l.length≤1000000) (hk32:key.length=32) (hs: ∀x∈l,x.length=32):aE Tryz.prog G 255 [.sl l.length (l.map keyM),keyM key] (.int .i64 (hJ key l 0)):=by
 generalize hr:hJ key l 0=R;refine bA seat Tryz.func255 19 ?_;refine aa ?_;refine av Nat (fun k=> [(9, .int .i64 k),(8, .int .i64 l.length),(7, .sl l.length (l.map keyM)),(3, .ptr 0 32 0 0 [])]) (fun _=> [(0,⟨68,32,false,0,[keyM key]⟩)]) 1 (fun k=>k≤l.length∧hJ key (l.drop k) k=R) (fun k=>l.length - k) 0 ⟨a₇ _,by rw [b₈];exact hr⟩ (vm [(0,_)] []) ?_;rintro k ⟨hk,hR⟩;try dsimp only
 refine aa ?_;refine ad rfl ?_ ?_ <;> intro h
 ·have hk':k < l.length:=by have:=ot h;omega
  have hel:=p8 hk';have h32:=hs _ (a₉ hk');rw [a₄ hk',hJ] at hR;generalize l[k] =a at *;have hel:=aj.mk hel;have q1:=aj.mk (gd (a:=a) (b:=key) (by rw [h32,hk32]));have s1:=bE.mk (fT a key);by_cases he:a=key
  ·rw [if_pos he] at hR;rw [decide_eq_true he] at q1;subst hR;refine aa ?_;refine au ?_;rfl
  ·rw [if_neg he] at hR;rw [decide_eq_false he] at q1;refine aa ?_;exact⟨k + 1,⟨by show k + 1≤l.length;omega,hR⟩,by show l.length - (k + 1) < l.length - k;omega,(by dsimp only;exact(vm [(0,_)] []))⟩
 ·have hk':k=l.length:=by have:=oF h;omega
  subst hk';rw [b₄,hJ] at hR;subst hR;refine aa ?_;refine au ?_;rfl
theorem LG (l:List (List UInt8)) (key:List UInt8) (hl:l.length≤1000000) (hk32:key.length=32) (hs: ∀x∈l,x.length=32):aE Tryz.prog G 218 [.sl l.length (l.map keyM),keyM key] (.bool (decide (0≤hJ key l 0))):=by
 have c1:=xY (G:=G) l key hl hk32 hs;generalize hJ key l 0=p at *;refine bA seat Tryz.func218 9 ?_;refine aa ?_;refine dL (c1) ?_;refine au ?_;rfl
def kC (k:List UInt8) (l:List (List UInt8)):List (List UInt8):=if hJ k l 0 < 0 then l else l.take (hJ k l 0).toNat ++ l.drop ((hJ k l 0).toNat + 1)
def Is (k:List UInt8) (l:List (List UInt8)) (size:Int):List (List UInt8):=if (size:Int) < (l.length:Int) + 1 then(l ++ [k]).drop 1 else l ++ [k]
def nS (k:List UInt8) (l:List (List UInt8)) (size:Int):List (List UInt8):=if 0≤hJ k l 0 then l.take (hJ k l 0).toNat ++ l.drop ((hJ k l 0).toNat + 1) ++ [k] else Is k l (max 0 (min size 1024))
def dD (l:List (List UInt8)):Prop:= ∀x∈l,x.length=32
theorem It {k:List UInt8} {l:List (List UInt8)} (h:dD l):dD (kC k l)∧(kC k l).length≤l.length:=by
 unfold kC;split
 ·exact⟨h,a₃ _⟩
 ·refine⟨fun x hx=>(b₅.1 hx).elim (fun hx=>h x (c₀ hx)) (fun hx=>h x (b₆ hx)),?_⟩;rw [a₂,b₂,b₀];omega
theorem Iu {k:List UInt8} {l:List (List UInt8)} {size:Int} (hk:k.length=32) (h:dD l):dD (nS k l size)∧(nS k l size).length≤max l.length 1024:=by
 unfold nS;split
 ·rename_i hp;rcases kB k l 0 with h0 | ⟨j,hj,hlt⟩
  ·omega
  refine⟨fun x hx=>(b₅.1 hx).elim (fun hx=>(b₅.1 hx).elim (fun hx=>h x (c₀ hx)) (fun hx=>h x (b₆ hx))) (fun hx=>by rw [c₂.1 hx];exact hk),?_⟩;rw [a₂,a₂,b₂,b₀,b₃];omega
 ·unfold Is;have ha:dD (l ++ [k]):=fun x hx=>(b₅.1 hx).elim (h x) (fun hx=>by rw [c₂.1 hx];exact hk)
  split
  ·refine⟨fun x hx=>ha x (b₆ hx),?_⟩;rw [b₀,a₂,b₃];omega
  ·refine⟨ha,?_⟩;rw [a₂,b₃];omega
theorem gA: ∀(l:List (List UInt8)),aY (l.map keyM) 32=true
 | [] =>rfl
 | _ :: _=>rfl
theorem Fe (l:List eY) (j:Nat) (hj:j < l.length) (hl:l.length≤1000000):aQ Tryz.prog G 262 [.sl l.length (l.map bN), .int .i64 j] [] 0 (.sl (l.take j ++ l.drop (j + 1)).length ((l.take j ++ l.drop (j + 1)).map bN)) [] 0:=by
 have hlen:(l.take j ++ l.drop (j + 1)).length=l.length - 1:=by rw [a₂,b₂,b₀];omega
 have fb1:=aj.mk (jo (n:=l.length) (k:=j) (κ:= .i64) om);have fb2:=aj.mk (show dz l.length (some (.int .i64 ((j:Int) + 1))) none=some (j + 1,l.length) from fW (n:=l.length) (k:=j + 1) (κ:= .i64) om);have fb3:=bE.mk (eL l);refine dw seat Tryz.func262 15 ?_;refine aa ?_;refine al [ae 0,ae 1,ae 2,ae 3,ae 4,ae 5,ae 6,ae 7,ae 8,ae 9,ae 10] ?_;refine aa ?_;refine aZ rfl (by intro R hR;refine cI hR ?_;refine a₀ ((by show aY (cutL _ 0 j) 41=true;rw [cut_take];exact eL _)) ?_;refine a₀ ⟨rfl,ai (by kernel_rfl) pf⟩ ?_;refine⟨(l.take j).map bN,sv (by show [] ++ cutL _ 0 j=_;rw [a₆,cut_take]),j,sv pf,?_⟩;exact hR) rfl ?_;refine aa ?_;refine aZ rfl (by intro R hR;refine cI hR ?_;refine a₀ ((by show aY (cutL _ (j + 1) l.length) 41=true;rw [dN];exact eL _)) ?_;refine a₀ ⟨(by simp <;> omega),ai (by kernel_rfl) pf⟩ ?_;refine⟨(l.take j ++ l.drop (j + 1)).map bN,sv (by show _ ++ cutL _ (j + 1) l.length=_;rw [dN,a₅]),(l.length - 1),sv pf,?_⟩;exact hR) rfl ?_;refine aa ?_;generalize l.take j ++ l.drop (j + 1)=Z at *;rw [← hlen];refine⟨[_],[],[(10,Z.length)],rfl,rfl,?_,rfl,⟨?_,trivial⟩,?_⟩
 ·exact⟨by show Z.length≤(Z.map bN).length;simp,trivial⟩
 ·exact .inr ⟨rfl,rfl,rfl,c₃ (b₁ _),bc bN Z⟩
 ·exact mm
theorem ML (l:List (List UInt8)) (key:List UInt8) (hl:l.length≤1000000) (hk32:key.length=32) (hs:dD l):aQ Tryz.prog G 261 [.sl l.length (l.map keyM),keyM key] [] 0 (.tup [.sl (kC key l).length ((kC key l).map keyM), .bool (decide (0≤hJ key l 0))]) [] 0:=by
 have c1:=xY (G:=G) l key hl hk32 hs;unfold kC;rcases kB key l 0 with h0 | ⟨j,hj,hlt⟩
 ·rw [h0] at c1 ⊢;rw [if_pos om,decide_eq_false om];refine dw seat Tryz.func261 23 ?_;refine aa ?_;(iterate 4 ((all_goals(refine aa ?_));(all_goals(first | (refine ah rfl aA rfl (src (c1)) rfl rfl ?_) | ((first | refine ag rfl rfl ?_ rfl ?_ | refine ad rfl ?_ ?_);all_goals(intro h;(try simp only [pl] at h);(try (exfalso;omega)))) | skip))));all_goals(refine au ?_)
  exact en [_,_]
 ·rw [hj,b₁] at c1 ⊢;rw [if_neg om,decide_eq_true om,c₄];have hlen:(l.take j ++ l.drop (j + 1)).length=l.length - 1:=by rw [a₂,b₂,b₀];omega
  have fb1:=aj.mk (jo (n:=l.length) (k:=j) (κ:= .i64) om);have fb2:=aj.mk (show dz l.length (some (.int .i64 ((j:Int) + 1))) none=some (j + 1,l.length) from fW (n:=l.length) (k:=j + 1) (κ:= .i64) om);have fb3:=bE.mk (gA l);refine dw seat Tryz.func261 23 ?_;refine aa ?_;(iterate 3 ((all_goals(refine aa ?_));(all_goals(first | (refine ah rfl aA rfl (src (c1)) rfl rfl ?_) | ((first | refine ag rfl rfl ?_ rfl ?_ | refine ad rfl ?_ ?_);all_goals(intro h;(try simp only [pl] at h);(try (exfalso;omega)))) | skip))));refine aa ?_;refine al [ae 0,ae 1,ae 2,ae 3,ae 4,ae 5,ae 6,ae 7,ae 8,ae 9,ae 10,ae 11] ?_;refine aa ?_;refine aZ rfl (by intro R hR;refine cI hR ?_;refine a₀ ((by show aY (cutL _ 0 j) 32=true;rw [cut_take];exact gA _)) ?_;refine a₀ ⟨rfl,ai (by kernel_rfl) pf⟩ ?_;refine⟨(l.take j).map keyM,sv (by show [] ++ cutL _ 0 j=_;rw [a₆,cut_take]),j,sv pf,?_⟩;exact hR) rfl ?_;refine aa ?_;refine aZ rfl (by intro R hR;refine cI hR ?_;refine a₀ ((by show aY (cutL _ (j + 1) l.length) 32=true;rw [dN];exact gA _)) ?_;refine a₀ ⟨(by simp <;> omega),ai (by kernel_rfl) pf⟩ ?_;refine⟨(l.take j ++ l.drop (j + 1)).map keyM,sv (by show _ ++ cutL _ (j + 1) l.length=_;rw [dN,a₅]),(l.length - 1),sv pf,?_⟩;exact hR) rfl ?_;refine aa ?_;generalize l.take j ++ l.drop (j + 1)=Z at *;rw [← hlen];refine⟨[_,_],[],[(17,Z.length)],rfl,rfl,?_,rfl,⟨?_,?_,trivial⟩,?_⟩
  ·exact⟨by show Z.length≤(Z.map keyM).length;simp,trivial⟩
  ·exact .inr ⟨rfl,rfl,rfl,c₃ (b₁ _),bc keyM Z⟩
  ·exact rv
  ·exact mm
theorem MM (l:List (List UInt8)) (size:Int) (key:List UInt8) (hl:l.length≤1000000) (hsz:cj size) (hk32:key.length=32) (hs:dD l):aQ Tryz.prog G 257 [.sl l.length (l.map keyM), .int .i64 size,keyM key] [] 0 (.tup [.sl (nS key l size).length ((nS key l size).map keyM), .bool (decide (hJ key l 0 < 0))]) [] 0:=by
 have c1:=xY (G:=G) l key hl hk32 hs;unfold nS;have hmm:(if (if (1024:Int) < size then 1024 else size) > 0 then(if (1024:Int) < size then 1024 else size) else 0)=max 0 (min size 1024):=by (repeat' split) <;> omega
 generalize hM:max 0 (min size 1024)=M at *;rcases kB key l 0 with h0 | ⟨j,hj,hlt⟩
 ·rw [h0] at c1 ⊢;rw [if_neg om,decide_eq_true om];unfold Is;have hlk:(l ++ [key]).length=l.length + 1:=sm;have fb1:=aj.mk (show dz (l.length + 1) (some (.int .i64 (1:Int))) none=some (1,l.length + 1) from fW (n:=l.length + 1) (k:=1) (κ:= .i64) om);refine dw seat Tryz.func257 44 ?_;refine aa ?_;(iterate 3 ((all_goals(refine aa ?_));(all_goals(first | (refine ah rfl aA rfl (src (c1)) rfl rfl ?_) | ((first | refine ag rfl rfl ?_ rfl ?_ | refine ad rfl ?_ ?_);all_goals(intro h;(try simp only [pl] at h);(try (exfalso;omega)))) | skip))));refine aa ?_;refine al [ae 0,ae 1,ae 2,ae 3,ae 4,ae 5,ae 6] ?_;refine aa ?_;refine aZ rfl (by intro R hR;refine cI hR ?_;refine a₀ ((gA l)) ?_;refine a₀ ⟨rfl,ai (by kernel_rfl) pf⟩ ?_;refine⟨l.map keyM,sv (by show [] ++ l.map keyM=_;rw [a₆]),l.length,sv pf,?_⟩;exact hR) rfl ?_;refine aa ?_;refine aZ rfl (by intro R hR;refine cI hR ?_;(refine a₀ (a₃ _) ?_;refine⟨_,rfl,?_⟩;refine a₀ ⟨sm,ai (by kernel_rfl) pf⟩ ?_;refine⟨(l ++ [key]).map keyM,sv (by rw [a₅];rfl),l.length + 1,sv pf,?_⟩);exact hR) rfl ?_;refine aa ?_;by_cases hc:M < (l.length:Int) + 1
  ·rw [if_pos hc];refine ad rfl ?_ ?_ <;> intro h
   rotate_left
   ·exfalso;have h':=oF h;(repeat' split at h') <;> omega
   refine aa ?_;have hdl:((l ++ [key]).drop 1).length=l.length:=by rw [b₀,hlk];omega
   rw [hdl];refine⟨[_,_],[],[(17,l.length + 1)],rfl,rfl,?_,rfl,⟨?_,?_,trivial⟩,?_⟩
   ·exact⟨by show l.length + 1≤((l ++ [key]).map keyM).length;rw [c₁,hlk];exact a₃ _,trivial⟩
   ·refine .inr ⟨rfl,rfl,om,om,?_⟩
    show cutL ((l ++ [key]).map keyM) 1 (1 + l.length)=((l ++ [key]).drop 1).map keyM
    unfold cutL;rw [← List.map_drop];exact c₅ (by rw [c₁,hdl];omega)
   ·exact rv
   ·exact mm
  ·rw [if_neg hc];refine ad rfl ?_ ?_ <;> intro h
   ·exfalso;have h':=ot h;(repeat' split at h') <;> omega
   refine aa ?_;generalize l ++ [key] =Z at *;rw [← hlk];refine⟨[_,_],[],[(17,Z.length)],rfl,rfl,?_,rfl,⟨?_,?_,trivial⟩,?_⟩
   ·exact⟨by show Z.length≤(Z.map keyM).length;simp,trivial⟩
   ·exact .inr ⟨rfl,rfl,rfl,c₃ (b₁ _),bc keyM Z⟩
   ·exact rv
   ·exact mm
 ·rw [hj,b₁] at c1 ⊢;rw [if_pos om,decide_eq_false om,c₄];have hlen:(l.take j ++ l.drop (j + 1) ++ [key]).length=l.length:=by rw [a₂,a₂,b₂,b₀,b₃];omega
  have fb1:=aj.mk (jo (n:=l.length) (k:=j) (κ:= .i64) om);have fb2:=aj.mk (show dz l.length (some (.int .i64 ((j:Int) + 1))) none=some (j + 1,l.length) from fW (n:=l.length) (k:=j + 1) (κ:= .i64) om);have fb3:=bE.mk (gA l);refine dw seat Tryz.func257 44 ?_;refine aa ?_;(iterate 3 ((all_goals(refine aa ?_));(all_goals(first | (refine ah rfl aA rfl (src (c1)) rfl rfl ?_) | ((first | refine ag rfl rfl ?_ rfl ?_ | refine ad rfl ?_ ?_);all_goals(intro h;(try simp only [pl] at h);(try (exfalso;omega)))) | skip))));refine aa ?_;refine al [ae 0,ae 1,ae 2,ae 3,ae 4,ae 5,ae 6,ae 7,ae 8,ae 9,ae 10,ae 11,ae 12,ae 13,ae 14] ?_;refine aa ?_;refine aZ rfl (by intro R hR;refine cI hR ?_;refine a₀ ((by show aY (cutL _ 0 j) 32=true;rw [cut_take];exact gA _)) ?_;refine a₀ ⟨rfl,ai (by kernel_rfl) pf⟩ ?_;refine⟨(l.take j).map keyM,sv (by show [] ++ cutL _ 0 j=_;rw [a₆,cut_take]),j,sv pf,?_⟩;exact hR) rfl ?_;refine aa ?_;refine aZ rfl (by intro R hR;refine cI hR ?_;refine a₀ ((by show aY (cutL _ (j + 1) l.length) 32=true;rw [dN];exact gA _)) ?_;refine a₀ ⟨(by simp <;> omega),ai (by kernel_rfl) pf⟩ ?_;refine⟨(l.take j ++ l.drop (j + 1)).map keyM,sv (by show _ ++ cutL _ (j + 1) l.length=_;rw [dN,a₅]),(l.length - 1),sv pf,?_⟩;exact hR) rfl ?_;refine aa ?_;refine aZ rfl (by intro R hR;refine cI hR ?_;(refine a₀ (a₃ _) ?_;refine⟨_,rfl,?_⟩;refine a₀ ⟨(by simp <;> omega),ai (by kernel_rfl) pf⟩ ?_;refine⟨(l.take j ++ l.drop (j + 1) ++ [key]).map keyM,sv (by rw [a₅ (l₁:=l.take j ++ l.drop (j + 1))];rfl),l.length,sv pf,?_⟩);exact hR) rfl ?_;refine aa ?_;generalize l.take j ++ l.drop (j + 1) ++ [key] =Z at *;rw [← hlen];refine⟨[_,_],[],[(24,Z.length)],rfl,rfl,?_,rfl,⟨?_,?_,trivial⟩,?_⟩
  ·exact⟨by show Z.length≤(Z.map keyM).length;simp,trivial⟩
  ·exact .inr ⟨rfl,rfl,rfl,c₃ (b₁ _),bc keyM Z⟩
  ·exact rv
  ·exact mm
end
section
variable {G:GS}
attribute [local irreducible] ak aB aD aI aN vC aW aw
structure LH (B:Nat) (e:eY):Prop where
 key:e.key.length=32
 raw:e.raw.length≤4096
 sender:e.sender.length≤5000
 height:0≤e.height∧e.height < 4611686018427387904
 time:0≤e.time∧e.time < 4611686018427387904
 peers:e.peers.length≤B
 gas:0≤e.gas∧e.gas < 18446744073709551616
def Ff (k:List UInt8) (l:List eY):Int:=hJ k (l.map (·.key)) 0
theorem MN (l:List eY) (key:List UInt8) (hl:l.length≤1000000) (hk32:key.length=32) (hs: ∀e∈l,e.key.length=32):aE Tryz.prog G 217 [.sl l.length (l.map bN),keyM key] (.int .i64 (Ff key l)):=by
 generalize hr:Ff key l=R;unfold Ff at hr;refine bA seat Tryz.func217 20 ?_;refine aa ?_;refine av Nat (fun k=> [(9, .int .i64 k),(8, .int .i64 l.length),(7, .sl l.length (l.map bN)),(3, .ptr 0 32 0 0 [])]) (fun _=> [(0,⟨68,32,false,0,[keyM key]⟩)]) 1 (fun k=>k≤l.length∧hJ key ((l.drop k).map (·.key)) k=R) (fun k=>l.length - k) 0 ⟨a₇ _,by rw [b₈];exact hr⟩ (vm [(0,_)] []) ?_;rintro k ⟨hk,hR⟩;try dsimp only
 refine aa ?_;refine ad rfl ?_ ?_ <;> intro h
 ·have hk':k < l.length:=by have:=ot h;omega
  have hel:=eG hk';have h32:=hs _ (a₉ hk');rw [a₄ hk',List.map_cons,hJ] at hR;generalize l[k] =a at *;have hel:=aj.mk hel;have q1:=aj.mk (gd (a:=a.key) (b:=key) (by rw [h32,hk32]));have s1:=bE.mk (fT a.key key);by_cases he:a.key=key
  ·rw [if_pos he] at hR;rw [decide_eq_true he] at q1;subst hR;refine aa ?_;refine au ?_;rfl
  ·rw [if_neg he] at hR;rw [decide_eq_false he] at q1;refine aa ?_;exact⟨k + 1,⟨by show k + 1≤l.length;omega,hR⟩,by show l.length - (k + 1) < l.length - k;omega,(by dsimp only;exact(vm [(0,_)] []))⟩
 ·have hk':k=l.length:=by have:=oF h;omega
  subst hk';rw [b₄,List.map_nil,hJ] at hR;subst hR;refine aa ?_;refine au ?_;rfl
theorem uJ (k:List UInt8) (l:List eY):Ff k l= -1∨∃j:Nat,Ff k l=(j:Int)∧j < l.length:=by
 rcases kB k (l.map (·.key)) 0 with h | ⟨j,h,hj⟩
 ·exact .inl h
 ·exact .inr ⟨j,by unfold Ff;rw [h,b₁],by simpa using hj⟩
def Ai (now then_ limit:Int):Bool:=decide (0 < limit∧then_ < now∧limit < now - then_)
theorem Iv (now then_ limit:Int) (h1:0≤now∧now < 4611686018427387904) (h2:0≤then_∧then_ < 4611686018427387904) (h3:cj limit):aE Tryz.prog G 276 [.int .i64 now, .int .i64 then_, .int .i64 limit] (.bool (Ai now then_ limit)):=by
 unfold cj at h3;generalize hr:Ai now then_ limit=R;unfold Ai at hr;refine bA seat Tryz.func276 24 ?_;refine aa ?_;by_cases c1:0 < limit
 ·by_cases c2:then_ < now
  ·(iterate 4 ((all_goals(refine aa ?_));(all_goals(first | ((first | refine ag rfl rfl ?_ rfl ?_ | refine ad rfl ?_ ?_);all_goals(intro h;(try simp only [pl] at h);(try (exfalso;omega)))) | skip))));all_goals(refine au ?_)
   all_goals(rw [← hr];exact congrArg MV.bool (decide_eq_decide.2 (by omega)))
  ·rw [decide_eq_false om] at hr;subst hr;(iterate 4 ((all_goals(refine aa ?_));(all_goals(first | ((first | refine ag rfl rfl ?_ rfl ?_ | refine ad rfl ?_ ?_);all_goals(intro h;(try simp only [pl] at h);(try (exfalso;omega)))) | skip))));all_goals(refine au ?_)
   all_goals(first | rfl | exact congrArg MV.bool (decide_eq_false (by omega)))
 ·rw [decide_eq_false om] at hr;subst hr;(iterate 4 ((all_goals(refine aa ?_));(all_goals(first | ((first | refine ag rfl rfl ?_ rfl ?_ | refine ad rfl ?_ ?_);all_goals(intro h;(try simp only [pl] at h);(try (exfalso;omega)))) | skip))));all_goals(refine au ?_)
  all_goals(first | rfl | exact congrArg MV.bool (decide_eq_false (by omega)))
structure jC where
 cfg:ou
 app:ef
 height:Int
 time:Int
 arr:Int
 ents:List eY
 cache:List (List UInt8)
abbrev gD (s:jC):MV:= .st [cfM s.cfg,appM s.app, .int .i64 s.height, .int .i64 s.time, .int .i64 s.arr, .sl s.ents.length (s.ents.map bN), .sl s.cache.length (s.cache.map keyM)]
class Fx where
 P:ou→dK→dK→Bool→Nat→Prop
structure Iw (F:Fx) (B:Nat) (s:jC):Prop where
 cfg:vA s.cfg
 app:fm s.app
 height:0≤s.height∧s.height≤1000000000000
 time:0≤s.time∧s.time≤100 * B
 arr:0≤s.arr∧s.arr≤B
 ents:s.ents.length≤B
 entk: ∀e∈s.ents,LH B e
 cache:s.cache.length≤1024
 ck:dD s.cache
 fx:F.P s.cfg s.app.com s.app.nxt s.app.opn s.app.price
abbrev dV [FX:Fx] (B:Nat) (s:jC):Prop:=Iw FX B s
def rk (s:jC) (k:List UInt8):jC:={ s with cache:=nS k s.cache s.cfg.cache }
def rl (s:jC) (k:List UInt8):jC:={ s with cache:=kC k s.cache }
def kD (s:jC) (k:List UInt8):jC:=if s.cfg.keep=true then s else rl s k
def jb (s:jC) (k:List UInt8):jC×Bool:=if Ff k s.ents < 0 then(s,false) else({ s with ents:=s.ents.take (Ff k s.ents).toNat ++ s.ents.drop ((Ff k s.ents).toNat + 1) },true)
theorem wE [FX:Fx] {B:Nat} {s:jC} {k:List UInt8} (h:dV B s) (hk:k.length=32):dV B (rk s k):=by
 have:=Iu (size:=s.cfg.cache) hk h.ck;exact⟨h.cfg,h.app,h.height,h.time,h.arr,h.ents,h.entk,by have:=this.2;have:=h.cache;show(nS k s.cache s.cfg.cache).length≤_;omega,this.1,h.fx⟩
theorem nw [FX:Fx] {B:Nat} {s:jC} {k:List UInt8} (h:dV B s):dV B (rl s k):=by
 have:=It (k:=k) h.ck;exact⟨h.cfg,h.app,h.height,h.time,h.arr,h.ents,h.entk,by have:=this.2;have:=h.cache;show(kC k s.cache).length≤_;omega,this.1,h.fx⟩
theorem mI [FX:Fx] {B:Nat} {s:jC} {k:List UInt8} (h:dV B s):dV B (kD s k):=by
 unfold kD;split
 ·exact h
 ·exact nw h
theorem lu [FX:Fx] {B:Nat} {s:jC} {k:List UInt8} (h:dV B s):dV B (jb s k).1:=by
 unfold jb;split
 ·exact h
 ·refine⟨h.cfg,h.app,h.height,h.time,h.arr,?_,fun e he=>?_,h.cache,h.ck,h.fx⟩
  ·have:=h.ents;dsimp only;rw [a₂,b₂,b₀];rcases uJ k s.ents with h0 | ⟨j,hj,hlt⟩
   ·omega
   ·rw [hj,c₄];omega
  ·exact(b₅.1 he).elim (fun he=>h.entk e (c₀ he)) (fun he=>h.entk e (b₆ he))
theorem Aj [FX:Fx] {B:Nat} (s:jC) (k:List UInt8) (h:dV B s) (hk:k.length=32):aE Tryz.prog G 220 [gD s,keyM k] (gD (rk s k)):=by
 obtain⟨⟨f1,f2,f3,f4,f5,f6,keep,f8,f9,f10,f11,f12⟩,⟨⟨a1,a2⟩,⟨a3,a4⟩,⟨a5,a6⟩,a7,a8⟩,height,time,arr,ents,cache⟩:=s;have h1:cache.length≤1024:=h.cache;have h2:0≤f4∧f4≤1024:=h.cfg.cache;have c1:=MM (G:=G) cache f4 k om (by unfold cj;omega) hk h.ck
 show aE _ _ _ _ (gD ⟨⟨f1,f2,f3,f4,f5,f6,keep,f8,f9,f10,f11,f12⟩,⟨⟨a1,a2⟩,⟨a3,a4⟩,⟨a5,a6⟩,a7,a8⟩,height,time,arr,ents,nS k cache f4⟩)
 generalize nS k cache f4=nc at *;clear h;dsimp only [gD,cfM,appM,eh];try generalize a1.map aT=b1 at *
 try generalize a1.length=d1 at *
 try generalize a3.map aT=b3 at *
 try generalize a3.length=d3 at *
 try generalize a5.map aT=b5 at *
 try generalize a5.length=d5 at *
 refine bA seat Tryz.func220 17 ?_;refine aa ?_;refine jW (c1) ?_;(refine jJ [_] rfl (by kernel_rfl) ?_;(refine au ?_);exact rfl)
theorem p9 [FX:Fx] {B:Nat} (s:jC) (k:List UInt8) (h:dV B s) (hk:k.length=32):aE Tryz.prog G 224 [gD s,keyM k] (gD (rl s k)):=by
 obtain⟨⟨f1,f2,f3,f4,f5,f6,keep,f8,f9,f10,f11,f12⟩,⟨⟨a1,a2⟩,⟨a3,a4⟩,⟨a5,a6⟩,a7,a8⟩,height,time,arr,ents,cache⟩:=s;have h1:cache.length≤1024:=h.cache;have c1:=ML (G:=G) cache k om hk h.ck
 show aE _ _ _ _ (gD ⟨⟨f1,f2,f3,f4,f5,f6,keep,f8,f9,f10,f11,f12⟩,⟨⟨a1,a2⟩,⟨a3,a4⟩,⟨a5,a6⟩,a7,a8⟩,height,time,arr,ents,kC k cache⟩)
 generalize kC k cache=nc at *;clear h;dsimp only [gD,cfM,appM,eh];try generalize a1.map aT=b1 at *
 try generalize a1.length=d1 at *
 try generalize a3.map aT=b3 at *
 try generalize a3.length=d3 at *
 try generalize a5.map aT=b5 at *
 try generalize a5.length=d5 at *
 refine bA seat Tryz.func224 14 ?_;refine aa ?_;refine jW (c1) ?_;(refine jJ [_] rfl (by kernel_rfl) ?_;(refine au ?_);exact rfl)
theorem oA [FX:Fx] {B:Nat} (s:jC) (k:List UInt8) (h:dV B s) (hk:k.length=32):aE Tryz.prog G 221 [gD s,keyM k] (gD (kD s k)):=by
 have c1:=p9 (G:=G) s k h hk;obtain⟨⟨f1,f2,f3,f4,f5,f6,keep,f8,f9,f10,f11,f12⟩,⟨⟨a1,a2⟩,⟨a3,a4⟩,⟨a5,a6⟩,a7,a8⟩,height,time,arr,ents,cache⟩:=s;cases keep with
 | true=>
  show aE _ _ _ _ (gD ⟨⟨f1,f2,f3,f4,f5,f6,true,f8,f9,f10,f11,f12⟩,⟨⟨a1,a2⟩,⟨a3,a4⟩,⟨a5,a6⟩,a7,a8⟩,height,time,arr,ents,cache⟩)
  clear c1 h;dsimp only [gD,cfM,appM,eh];try generalize a1.map aT=b1 at *
  try generalize a1.length=d1 at *
  try generalize a3.map aT=b3 at *
  try generalize a3.length=d3 at *
  try generalize a5.map aT=b5 at *
  try generalize a5.length=d5 at *
  refine bA seat Tryz.func221 12 ?_;refine aa ?_;(refine jJ [_] rfl (by kernel_rfl) ?_;(refine au ?_);exact rfl)
 | false=>
  show aE _ _ _ _ (gD ⟨⟨f1,f2,f3,f4,f5,f6,false,f8,f9,f10,f11,f12⟩,⟨⟨a1,a2⟩,⟨a3,a4⟩,⟨a5,a6⟩,a7,a8⟩,height,time,arr,ents,kC k cache⟩)
  change aE _ _ _ _ (gD ⟨⟨f1,f2,f3,f4,f5,f6,false,f8,f9,f10,f11,f12⟩,⟨⟨a1,a2⟩,⟨a3,a4⟩,⟨a5,a6⟩,a7,a8⟩,height,time,arr,ents,kC k cache⟩) at c1;generalize kC k cache=nc at *;clear h;dsimp only [gD,cfM,appM,eh] at c1;dsimp only [gD,cfM,appM,eh];try generalize a1.map aT=b1 at *
  try generalize a1.length=d1 at *
  try generalize a3.map aT=b3 at *
  try generalize a3.length=d3 at *
  try generalize a5.map aT=b5 at *
  try generalize a5.length=d5 at *
  refine bA seat Tryz.func221 12 ?_;refine aa ?_;refine dL (c1) ?_;(refine jJ [_] rfl (by kernel_rfl) ?_;(refine au ?_);exact rfl)
theorem nz [FX:Fx] {B:Nat} (s:jC) (k:List UInt8) (h:dV B s) (hB:B≤100000) (hk:k.length=32):aE Tryz.prog G 225 [gD s,keyM k] (.tup [gD (jb s k).1, .bool (jb s k).2]):=by
 have hls:=h.ents;have hek:=h.entk;clear h;unfold jb;obtain⟨⟨f1,f2,f3,f4,f5,f6,keep,f8,f9,f10,f11,f12⟩,⟨⟨a1,a2⟩,⟨a3,a4⟩,⟨a5,a6⟩,a7,a8⟩,height,time,arr,ents,cache⟩:=s;change ents.length≤B at hls;have c1:=MN (G:=G) ents k om hk (fun e he=>(hek e he).key);clear hek;dsimp only;rcases uJ k ents with h0 | ⟨j,hj,hlt⟩
 ·rw [h0] at c1 ⊢;rw [if_pos om];dsimp only [gD,cfM,appM,eh];try generalize a1.map aT=b1 at *
  try generalize a1.length=d1 at *
  try generalize a3.map aT=b3 at *
  try generalize a3.length=d3 at *
  try generalize a5.map aT=b5 at *
  try generalize a5.length=d5 at *
  refine bA seat Tryz.func225 20 ?_;refine aa ?_;refine dL (c1) ?_;(refine jJ [_,_] rfl (by kernel_rfl) ?_;(refine au ?_);exact rfl)
 ·rw [hj] at c1 ⊢;rw [if_neg om,c₄];have c2:=Fe (G:=G) ents j hlt om;generalize ents.take j ++ ents.drop (j + 1)=ne at *;dsimp only [gD,cfM,appM,eh];try generalize a1.map aT=b1 at *
  try generalize a1.length=d1 at *
  try generalize a3.map aT=b3 at *
  try generalize a3.length=d3 at *
  try generalize a5.map aT=b5 at *
  try generalize a5.length=d5 at *
  refine bA seat Tryz.func225 20 ?_;refine aa ?_;refine dL (c1) ?_;refine jW (c2) ?_;(refine jJ [_,_] rfl (by kernel_rfl) ?_;(refine au ?_);exact rfl)
def qa (n:Int):Bool:=decide (1≤n∧n≤15)
theorem Ak (n:Int):aE Tryz.prog G 226 [.int .i64 n] (.bool (qa n)):=by
 generalize hr:qa n=R;unfold qa at hr;refine bA seat Tryz.func226 9 ?_;refine aa ?_;refine ag rfl rfl ?_ rfl ?_ <;> intro h
 ·have k1:=ot h;refine aa ?_;refine au ?_;rw [← hr];exact congrArg MV.bool (decide_eq_decide.2 om)
 ·have k1:=oF h;refine aa ?_;refine au ?_;rw [← hr];exact congrArg MV.bool (decide_eq_false om).symm
def Cb (s:jC) (gas:Nat):Bool:=decide (0≤s.cfg.blkG∧s.cfg.blkG < gas)
theorem Ds [FX:Fx] {B:Nat} (s:jC) (gas:Nat) (h:dV B s):aE Tryz.prog G 222 [gD s, .int .u64 gas] (.bool (Cb s gas)):=by
 have hg:=h.cfg.blkG;clear h;generalize hr:Cb s gas=R;obtain⟨⟨f1,f2,f3,f4,f5,f6,keep,f8,f9,f10,f11,f12⟩,⟨⟨a1,a2⟩,⟨a3,a4⟩,⟨a5,a6⟩,a7,a8⟩,height,time,arr,ents,cache⟩:=s;change decide (0≤f9∧f9 < gas)=R at hr;change -1≤f9∧f9≤1125899906842624 at hg;have hw:0≤f9→aU (IntKind.u64.wrap f9) f9:=fun h0=>aU.mk (bM _ om om)
 dsimp only [gD,cfM,appM,eh];try generalize a1.map aT=b1 at *
 try generalize a1.length=d1 at *
 try generalize a3.map aT=b3 at *
 try generalize a3.length=d3 at *
 try generalize a5.map aT=b5 at *
 try generalize a5.length=d5 at *
 refine bA seat Tryz.func222 17 ?_;refine aa ?_;refine ag rfl rfl ?_ rfl ?_ <;> intro h
 ·have k1:=ot h;have hw:=hw k1;refine aa ?_;refine au ?_;rw [← hr];exact congrArg MV.bool (decide_eq_decide.2 om)
 ·have k1:=oF h;refine aa ?_;refine au ?_;rw [← hr];exact congrArg MV.bool (decide_eq_false om).symm
end
section
mutual
theorem Ix: ∀{v:MV},EJ v=true→v.idFree=true
 | .int _ _,_=>rfl
 | .bool _,_=>rfl
 | .str _,_=>rfl
 | .nilp,_=>rfl
 | .arr ..,_=>rfl
 | .sl ..,_=>rfl
 | .st l,h=>kE (v:=l) h
 | .nils,h=>a₁ h
 | .nilf,h=>a₁ h
 | .nili,h=>a₁ h
 | .ptr ..,h=>a₁ h
 | .gp ..,h=>a₁ h
 | .ep ..,h=>a₁ h
 | .ms ..,h=>a₁ h
 | .fn ..,h=>a₁ h
 | .ifc ..,h=>a₁ h
 | .tup _,h=>a₁ h
 | .undef,h=>a₁ h
theorem kE: ∀{v:List MV},pC v=true→MV.idFrees v=true
 | [],_=>rfl
 | m :: l,h=>by
  unfold pC at h
  cases hm:EJ m with
  | false=>rw [hm] at h;exact a₁ h
  | true=>
   rw [hm] at h
   unfold MV.idFrees
   rw [Ix hm,kE h]
   rfl
end
theorem uK: ∀{v:MV},v.idFree=true→dM v=true
 | .tup _,h=>a₁ h
 | .undef,_=>rfl
 | .int _ _,_=>rfl
 | .bool _,_=>rfl
 | .str _,_=>rfl
 | .nilp,_=>rfl
 | .arr ..,_=>rfl
 | .sl ..,_=>rfl
 | .st l,h=>h
 | .nils,_=>rfl
 | .nilf,_=>rfl
 | .nili,_=>rfl
 | .ptr ..,h=>a₁ h
 | .gp ..,h=>h
 | .ep ..,h=>h
 | .ms ..,h=>a₁ h
 | .fn ..,h=>h
 | .ifc ..,h=>h
theorem rT: ∀{v:List MV},MV.idFrees v=true→qL v=true
 | [],_=>rfl
 | m :: l,h=>by
  unfold MV.idFrees at h
  rw [c₉] at h
  unfold qL
  rw [uK h.1,rT h.2]
  rfl
theorem wF: ∀{vs:List MV},MV.idFrees vs=true→dM (iy vs)=true
 | [],_=>rfl
 | [v],h=>by
  have h2:(v.idFree && MV.idFrees [])=true:=h
  rw [c₉] at h2
  exact uK h2.1
 | a :: b :: l,h=>rT h
mutual
def O2:MV→MV
 | .nils=> .sl 0 []
 | .st l=> .st (Al l)
 | m=>m
def Al:List MV→List MV
 | [] => []
 | m :: l=>O2 m :: Al l
end
mutual
def MO:MV→Bool
 | .nils=>true
 | .st l=>Am l
 | m=>EJ m
def Am:List MV→Bool
 | [] =>true
 | m :: l=>bif MO m then Am l else false
end
mutual
theorem MP {σ:Nat→Option Nat} {fz:Fz}: ∀{v:MV},MO v=true→eu σ fz (O2 v) v∧(O2 v).idFree=true
 | .nils,_=>⟨.inr ⟨rfl,rfl⟩,rfl⟩
 | .st l,h=>⟨.inr ⟨_,rfl,(sI (v:=l) h).1⟩,(sI (σ:=σ) (fz:=fz) (v:=l) h).2⟩
 | .int _ _,_=>⟨gz _ rfl,rfl⟩
 | .bool _,_=>⟨gz _ rfl,rfl⟩
 | .str _,_=>⟨gz _ rfl,rfl⟩
 | .nilp,_=>⟨gz _ rfl,rfl⟩
 | .arr ..,_=>⟨gz _ rfl,rfl⟩
 | .sl ..,_=>⟨gz _ rfl,rfl⟩
 | .nilf,h=>a₁ h
 | .nili,h=>a₁ h
 | .ptr ..,h=>a₁ h
 | .gp ..,h=>a₁ h
 | .ep ..,h=>a₁ h
 | .ms ..,h=>a₁ h
 | .fn ..,h=>a₁ h
 | .ifc ..,h=>a₁ h
 | .tup _,h=>a₁ h
 | .undef,h=>a₁ h
theorem sI {σ:Nat→Option Nat} {fz:Fz}: ∀{v:List MV},Am v=true→eu.relVs σ fz (Al v) v∧MV.idFrees (Al v)=true
 | [],_=>⟨trivial,rfl⟩
 | m :: l,h=>by
  unfold Am at h
  cases hm:MO m with
  | false=>rw [hm] at h;exact a₁ h
  | true=>
   rw [hm] at h
   have h1:=MP (σ:=σ) (fz:=fz) hm
   have h2:=sI (σ:=σ) (fz:=fz) (v:=l) h
   refine⟨⟨h1.1,h2.1⟩,?_⟩
   unfold Al MV.idFrees
   rw [h1.2,h2.2]
   rfl
end
section
variable {T:bB} {rs:List ResultVar} {M:VM} {E:VE} {n:Nat}
theorem gB {P:MV→Prop} (vs:List MV) (hP:P (iy vs)) (hc:pC vs=true) (h1:dY T M E rs (fun v=>v=vs)):tJ T 0 rs (fun r M n=>(P r∧dM r=true)∧M= [] ∧n=0) .ret E M n:=
 eQ (fun v hv=>by subst hv;exact⟨iy v,[],0,⟨⟨hP,wF (kE hc)⟩,rfl,rfl⟩,v,[],[],rfl,rfl,trivial,rfl,bd v (kE hc),trivial⟩) h1
theorem bu {P:MV→Prop} (vs:List MV) (h1:dY T M E rs (fun v=>v=vs)) (hc:Am vs=true) (hP:P (iy (Al vs))):tJ T 0 rs (fun r M n=>(P r∧dM r=true)∧M= [] ∧n=0) .ret E M n:=
 eQ (fun v hv=>by
  subst hv;have k:=sI (σ:=da 0 []) (fz:=kI M []) hc;exact⟨iy (Al v),[],0,⟨⟨hP,wF k.2⟩,rfl,rfl⟩,Al v,[],[],rfl,rfl,trivial,rfl,k.1,trivial⟩) h1
theorem LI {res:MV} (vs:List MV) (hR:iy vs=res) (hc:pC vs=true) (h1:dY T M E rs (fun v=>v=vs)):GN T 0 rs res [] 0 .ret E M n:=
 eQ (fun v hv=>by subst hv;exact⟨v,[],[],hR,rfl,trivial,rfl,bd v (kE hc),trivial⟩) h1
end
section
variable {Pg:Program} {T:bB} {N:Nat} {ents:List FuncId} {G:GS} {ops:Array Oper} {d:Tmp} {ty:TypeId} {pos:String} {after:Array Edge} {g:Option (Nat×Bool)} {rest:List Oper} {K:VK} {E:VE} {M:VM} {n:Nat}
 {f:Operand} {args:Array Operand} {ats:Array TypeId} {f0:FuncId} {vs:List MV} {res:MV}
theorem aG (hc:aQ Pg G f0 vs [] 0 res [] 0) (hd:Nat.blt d N=true) (h2:ents.contains f0=true) (h1: ∀R:FuncId×List MV→Prop,R (f0,vs)→(dX E f args.toList).runP R) (hf:(dM res && MV.idFrees vs)=true)
  (h:ak Pg T N ents G ops rest K ((d,res) :: E) M n):aB Pg T N ents G ops ⟨some d, .call ⟨.value f,args,ats⟩,ty,pos,after,g⟩ rest K E M n:=by
 rw [c₉] at hf
 exact sC hd h1 h2 hc hf.1 (bd vs hf.2) h
theorem aM {P:MV→Prop} (hc:bZ Pg G f0 vs P) (hd:Nat.blt d N=true) (h2:ents.contains f0=true) (h1: ∀R:FuncId×List MV→Prop,R (f0,vs)→(dX E f args.toList).runP R) (hf:MV.idFrees vs=true)
  (h: ∀r,P r→ak Pg T N ents G ops rest K ((d,r) :: E) M n):aB Pg T N ents G ops ⟨some d, .call ⟨.value f,args,ats⟩,ty,pos,after,g⟩ rest K E M n:=
 HP hd h1 h2 hc [] trivial (bd vs hf) h
variable {n0 n':Nat} {y:Code} {Q:Exit→VK}
theorem wG (E':VE) (M':VM) (n':Nat) (hm:gI n0 E' M' n' E M) (h:vC Pg T N ents G n0 y Q E' M' n'):ak Pg T N ents G ops [] (aW Pg T N ents G n0 y Q .normal) E M n:=Rs.re _ _ _ hm h
end
theorem Nu {p q:Prop} (h:q) (s:FW q→p:=by intro hq;(repeat(first | ((with_reducible apply ub);(case hp=>exact rfl);(case hc=>exact rfl);(case hm=>exact rfl);(case hr=>exact rfl);(case hk=>kernel_rfl)) | ((with_reducible apply pz);(case hp=>exact rfl);(case hy=>exact rfl);(case hc=>exact rfl);(case hpe=>exact Nat.zero_le _);(case hm=>exact rfl);(case hs=>exact rfl);(case hk=>kernel_rfl)) | ((with_reducible apply zF);(case hx=>exact rfl);(case ht=>exact rfl);(case hk=>kernel_rfl)) | ((with_reducible apply pB);(case ht=>exact rfl);(case hz=>exact rfl);(case hk=>kernel_rfl)) | ((with_reducible apply wb);(case hb=>exact rfl);(case he=>exact jV)) | ((with_reducible apply tU)) | ((with_reducible apply zA)) | ((with_reducible apply tQ)) | ((with_reducible apply uc);(case ho=>exact rfl);(case hp=>exact rfl);(case hc=>exact rfl);(case hm=>exact rfl);(case hr=>exact rfl);(case hk=>kernel_rfl)) | ((with_reducible apply pA);(case ho=>exact rfl);(case hp=>exact rfl);(case hy=>exact rfl);(case hc=>exact rfl);(case hpe=>exact Nat.zero_le _);(case hm=>exact rfl);(case hs=>exact rfl);(case hk=>kernel_rfl)) | ((with_reducible apply wc);(case ho=>exact rfl);(case hb=>exact rfl);(case he=>exact jV)) | ((with_reducible apply zB);(case ho=>exact (show gK _ _=true by kernel_rfl))) | ((with_reducible apply qJ);(case hb=>exact rfl);(case he=>exact jV)) | ((with_reducible apply tS);(case hb=>exact rfl);(case he=>exact jV)) | ((with_reducible apply tT);(case hs=>exact rfl);(case hv=>exact rfl);(case hb=>exact rfl);(case he=>exact jV)) | ((with_reducible apply lW);(case hs=>exact rfl);(case hv=>exact rfl);(case hd=>exact rfl)) | ((with_reducible apply lX);(case hs=>exact rfl);(case hv=>exact rfl);(case hd=>exact rfl)) | ((with_reducible apply py);(case hq=>exact rfl);(case hv=>exact rfl);(case he=>exact jV);(case hd=>exact rfl)) | ((with_reducible apply qI);(case hq=>exact rfl);(case hv=>exact rfl);(case he=>exact jV)) | ((with_reducible apply aL);(case hq=>exact rfl);(case hv=>exact rfl);(case he=>exact jV);(case hd=>exact rfl)) | ((with_reducible apply tK)) | ((with_reducible apply tN)) | ((with_reducible apply lR)) | ((with_reducible apply pa);(case he=>exact rfl)) | ((with_reducible apply pg);(case he=>exact rfl)) | ((with_reducible apply o9)) | ((with_reducible apply tL)) | ((with_reducible apply tM)) | ((with_reducible apply zx)) | ((with_reducible apply tO)) | ((with_reducible apply tP)) | ((with_reducible apply lS)) | ((with_reducible apply lT)) | ((with_reducible apply lU);(case hb=>exact rfl)) | ((with_reducible apply lV);(case hb=>exact rfl)) | ((with_reducible apply pw)) | ((with_reducible apply px)) | ((with_reducible apply o8)) | (with_reducible refine po (by assumption) ?_) | (with_reducible refine pq (by assumption) ?_) | ((with_reducible apply qK);(case ho=>exact rfl);(case hb=>exact rfl);(case he=>exact jV)) | ((with_reducible apply tY);(case ho=>exact rfl);(case hs=>exact rfl);(case hv=>exact rfl);(case hb=>exact rfl);(case he=>exact jV)) | ((with_reducible apply zD);(case ho=>exact rfl);(case hb=>exact rfl);(case he=>exact jV)) | ((with_reducible apply tX)) | ((with_reducible apply kX);(case ho=>exact rfl)) | ((with_reducible apply lY);(case hs=>exact rfl);(case hv=>exact rfl);(case hd=>exact rfl)) | ((with_reducible apply lZ);(case hs=>exact rfl);(case hv=>exact rfl);(case hd=>exact rfl)) | ((with_reducible apply ku);(case hs=>exact rfl);(case hv=>exact rfl)) | ((with_reducible apply zC)) | ((with_reducible apply oe);(case hv=>exact rfl);(case he=>exact jV);(case hd=>exact rfl)) | ((with_reducible apply mY);(case hv=>exact rfl);(case he=>exact jV)) | ((with_reducible apply aZ);(case hv=>exact rfl);(case he=>exact jV);(case hd=>exact rfl)) | ((with_reducible apply kq);(case hs=>exact rfl);(case hv=>exact rfl)) | ((with_reducible apply zz))));exact hq.out):p:=s ⟨h⟩
end
section
variable {G:GS}
attribute [local irreducible] ak aB aD aI aN vC aW aw
structure Px where
 code:Int
 key:List MV
 prio:Int
 ev:Nat×List MV
 exp:Nat×List MV
 inv:Nat×List MV
 dn:Nat×List MV
 fl:Nat×List MV
 tx:Nat×List MV
 height:Int
 dig:List MV
def LJ (r:Px):MV:= .st [.int .i64 r.code, .arr 32 1 r.key, .int .u64 r.prio, .sl r.ev.1 r.ev.2, .sl r.exp.1 r.exp.2, .sl r.inv.1 r.inv.2, .sl r.dn.1 r.dn.2, .sl r.fl.1 r.fl.2, .sl r.tx.1 r.tx.2, .int .i64 r.height, .arr 32 1 r.dig]
theorem dV.mono [FX:Fx] {B B':Nat} {s:jC} (h:dV B s) (hb:B≤B'):dV B' s:=
 ⟨h.cfg,h.app,h.height,⟨h.time.1,by have:=h.time.2;omega⟩,⟨h.arr.1,by have:=h.arr.2;omega⟩,d₂ h.ents hb,fun e he=>let k:=h.entk e he;⟨k.key,k.raw,k.sender,k.height,k.time,d₂ k.peers hb,k.gas⟩,h.cache,h.ck,h.fx⟩
theorem Cc: ∀(l:List Int),aY (l.map (MV.int .i64)) 1=true
 | [] =>rfl
 | _ :: _=>rfl
abbrev appZ:MV:= .st [lgZ,lgZ,lgZ, .bool false, .int .u64 0]
abbrev Dt:MV:= .st [N9,appZ, .int .i64 0, .int .i64 0, .int .i64 0, .nils, .nils]
theorem MQ [FX:Fx] {B:Nat} (s:jC) (i peer:Int) (hi:i < s.ents.length) (hs:dV B s) (hB:B≤100000):bZ Tryz.prog G 219 [gD s, .int .i64 i, .int .i64 peer] (fun r=> ∃s',r=gD s'∧dV (B + 1) s'):=by
 have c1:=Ak (G:=G) peer;have hls:=hs.ents;unfold bZ;refine seq' seat Tryz.func219 47 ?_;refine aa ?_;refine ag rfl rfl ?_ rfl ?_ <;> intro h
 ·have h0:0≤i:=by have:=oF h;omega
  obtain⟨k,rfl⟩: ∃k:Nat,i=k:=⟨i.toNat,om⟩
  have hk:k < s.ents.length:=om;have hel:=aj.mk (eG hk);have hep:=hs.entk _ (a₉ hk);generalize hek:s.ents[k] =e at *;have c2:=zZ (G:=G) e.peers peer (by have:=hep.peers;omega);have hpl:e.peers.length≤100000:=d₂ hep.peers hB;have hnth:aj (bW (s.ents.map bN) (0 + k)) (bN e):=aj.mk (by rw [bS,b₁];simp [hk,hek]);generalize qa peer=bp at *;generalize decide (peer∈e.peers)=bi at *;refine aa ?_;refine aG (src (c1)) rfl rfl aA (by kernel_rfl) ?_;refine aa ?_;refine ag rfl rfl ?_ rfl ?_ <;> intro h
  ·refine aa ?_;refine aG (src (c2)) rfl rfl aA (by kernel_rfl) ?_;refine aa ?_;refine ad rfl ?_ ?_ <;> intro h
   ·refine aa ?_;(refine gB [_] (⟨s,rfl,hs.mono om⟩) (by kernel_rfl) ?_;(refine au ?_);exact rfl)
   ·refine aa ?_;refine aL rfl rfl (by intro R hR;refine cI hR ?_;refine a₀ ((eL _)) ?_;refine a₀ ⟨rfl,ai (by kernel_rfl) pf⟩ ?_;refine⟨s.ents.map bN,sv (by rfl),s.ents.length,sv pf,?_⟩;exact hR) rfl ?_;refine aa ?_;refine aL rfl rfl (by intro R hR;refine cI hR ?_;refine a₀ ((Cc _)) ?_;refine a₀ ⟨rfl,ai (by kernel_rfl) pf⟩ ?_;refine⟨e.peers.map (MV.int .i64),sv (by rfl),e.peers.length,sv pf,?_⟩;exact hR) rfl ?_;refine aa ?_;obtain⟨Z,hZ⟩: ∃Z,Z=e.peers ++ [peer] :=⟨_,rfl⟩
    have hZl:Z.length=e.peers.length + 1:=by rw [hZ];simp
    refine aL rfl rfl (by intro R hR;refine cI hR ?_;(refine a₀ (a₃ _) ?_;refine⟨_,rfl,?_⟩;refine a₀ ⟨sm,ai (by kernel_rfl) pf⟩ ?_;refine⟨Z.map (MV.int .i64),sv (by rw [hZ];simp;rfl),Z.length,sv pf,?_⟩);exact hR) rfl ?_;iterate 2 (refine Lt ?_)
    refine od ([(41, .sl Z.length (Z.map (MV.int .i64))),(43, .ptr 20 41 (0 + k) (0 + 40) ([] ++ [9])),(7, .ms 20 41 0 s.ents.length),(6, .ptr 1 25 0 0 []),(3, .ptr 0 25 0 0 [])]) ([(20,⟨215,41,true,0,s.ents.map bN⟩),(1,⟨75,25,false,0,[Dt]⟩),(0,⟨75,25,false,0,[gD s]⟩)]) [(33,Z.length)] mm rfl mm mm ?_;obtain⟨e1,e2,e3,e4,e5,e6,e7,e8,e9,e10⟩:=e;have hst:aU (setL (s.ents.map bN) (0 + k) (bN ⟨e1,e2,e3,e4,e5,e6,e7,e8,e9,Z⟩)) ((s.ents.set k ⟨e1,e2,e3,e4,e5,e6,e7,e8,e9,Z⟩).map bN):=aU.mk (by rw [setL_eq,b₁,List.map_set]);have hok:dV (B + 1) { s with ents:=s.ents.set k ⟨e1,e2,e3,e4,e5,e6,e7,e8,e9,Z⟩ }:=by
     have hm:=hs.mono (B':=B + 1) om;refine⟨hm.cfg,hm.app,hm.height,hm.time,hm.arr,by dsimp only;rw [d₄];exact hm.ents,fun x hx=>?_,hm.cache,hm.ck,hm.fx⟩;rcases List.mem_or_eq_of_mem_set hx with hx | rfl
     ·exact hm.entk x hx
     ·exact⟨hep.key,hep.raw,hep.sender,hep.height,hep.time,by have:=hep.peers;dsimp only at *;omega,hep.gas⟩
    have hlen:(s.ents.set k ⟨e1,e2,e3,e4,e5,e6,e7,e8,e9,Z⟩).length=s.ents.length:=d₄ ..;generalize s.ents.set k ⟨e1,e2,e3,e4,e5,e6,e7,e8,e9,Z⟩=W at *;iterate 3 (refine Lt ?_)
    refine od ([(7, .ms 20 41 0 s.ents.length),(6, .ptr 1 25 0 0 []),(3, .ptr 0 25 0 0 [])]) ([(20,⟨215,41,true,0,setL (s.ents.map bN) (0 + k) (bN ⟨e1,e2,e3,e4,e5,e6,e7,e8,e9,Z⟩)⟩),(1,⟨75,25,false,0,[Dt]⟩),(0,⟨75,25,false,0,[gD s]⟩)]) [] trivial rfl mm mm ?_;rw [hst.out,← hlen];refine od ([(7, .sl W.length (W.map bN)),(6, .ptr 1 25 0 0 []),(3, .ptr 0 25 0 0 [])]) ([(1,⟨75,25,false,0,[Dt]⟩),(0,⟨75,25,false,0,[gD s]⟩)]) [(20,W.length)] mm rfl mm mm ?_;refine aa ?_;(refine gB [_] (⟨{ s with ents:=W },rfl,hok⟩) (by kernel_rfl) ?_;(refine au ?_);exact rfl)
  ·refine aa ?_;(refine gB [_] (⟨s,rfl,hs.mono om⟩) (by kernel_rfl) ?_;(refine au ?_);exact rfl)
 ·refine aa ?_;(refine gB [_] (⟨s,rfl,hs.mono om⟩) (by kernel_rfl) ?_;(refine au ?_);exact rfl)
end
section
variable {G:GS}
attribute [local irreducible] ak aB aD aI aN vC aW aw
structure FZ where
 room:Int
 gas:Nat
 free:Bool
def Nv (r:FZ):MV:= .st [.int .i64 r.room, .int .u64 r.gas, .bool r.free]
def Fg (r:FZ):Prop:=(0≤r.room∧r.room < 9223372036854775808)∧bo r.gas
def uL (b g:Int):FZ×Bool:=if b < 0∨g < -1 then(⟨0,0,false⟩,false) else(⟨b,(max g 0).toNat,decide (g < 0)⟩,true)
theorem Du {b g:Int} (hb:cj b) (hg:cj g):Fg (uL b g).1:=by
 unfold cj at hb hg;unfold uL;split
 ·exact⟨⟨sm,sm⟩,by simp [bo]⟩
 ·exact⟨dm,by unfold bo;dsimp only;omega⟩
theorem An (b g:Int) (hb:cj b) (hg:cj g):aE Tryz.prog G 263 [.int .i64 b, .int .i64 g] (.tup [Nv (uL b g).1, .bool (uL b g).2]):=by
 unfold cj at hb hg;generalize hr:uL b g=R;unfold uL at hr;obtain⟨m,hm⟩: ∃m:Nat,(max g 0).toNat=m:=⟨_,rfl⟩
 have hmx:=aU.mk (show(if (0:Int) > g then 0 else g)=(m:Int) by rw [← hm];split <;> omega);have hmu:m < 18446744073709551616:=om;rw [hm] at hr;refine bA seat Tryz.func263 20 ?_;refine aa ?_;refine ag rfl rfl ?_ rfl ?_ <;> intro h
 ·have k1:=oF h;refine aa ?_;refine ad rfl ?_ ?_ <;> intro h
  ·have k2:=ot h;rw [if_pos om] at hr;subst hr;refine aa ?_;(refine jJ [_,_] rfl (by kernel_rfl) ?_;(refine au ?_);exact rfl)
  ·have k2:=oF h;rw [if_neg om] at hr;subst hr;refine aa ?_;(refine jJ [_,_] rfl (by kernel_rfl) ?_;(refine au ?_);exact rfl)
 ·have k1:=ot h;rw [if_pos om] at hr;subst hr;refine aa ?_;(refine jJ [_,_] rfl (by kernel_rfl) ?_;(refine au ?_);exact rfl)
def mJ (r:FZ) (n:Nat) (gas:Nat):FZ×Bool:=if r.room < iR n∨(r.free=false∧r.gas < gas) then(r,false) else(⟨r.room - iR n,if r.free=true then r.gas else r.gas - gas,r.free⟩,true)
theorem Ao {r:FZ} {n gas:Nat} (h:Fg r):Fg (mJ r n gas).1:=by
 unfold mJ;split
 ·exact h
 ·rename_i hx;obtain⟨h1,h2⟩:=h;unfold bo at h2;refine⟨dm,?_⟩;unfold bo;dsimp only;split <;> omega
theorem Iy (r:FZ) (e:eY) (gas:Nat) (hgas:e.gas=gas) (hr:Fg r) (he:e.raw.length≤1000000) (hg:bo gas):aE Tryz.prog G 265 [Nv r,bN e] (.tup [Nv (mJ r e.raw.length gas).1, .bool (mJ r e.raw.length gas).2]):=by
 generalize hR:mJ r e.raw.length gas=R;unfold mJ at hR;obtain⟨room,rgas,free⟩:=r;obtain⟨hr1,hr2⟩:=hr;dsimp only at hr1 hr2 hR;unfold bo at hr2 hg;have c1:=xQ (G:=G) e.raw.length om;have hw:iR e.raw.length≤2000000:=by have:=zY (n:=e.raw.length) (by unfold bo;omega);omega
 generalize iR e.raw.length=n at *;obtain⟨e1,e2,e3,e4,e5,e6,e7,e8,e9,e10⟩:=e;dsimp only at hgas;subst hgas;dsimp only [Nv];refine bA seat Tryz.func265 43 ?_;refine aa ?_;refine aG (src (c1)) rfl rfl aA (by kernel_rfl) ?_;refine aa ?_;refine ag rfl rfl ?_ rfl ?_ <;> intro h
 ·have k1:=oF h;cases free with
  | true=>
   rw [if_neg (by simp;omega)] at hR;subst hR;refine aa ?_;(refine jJ [_,_] rfl (by kernel_rfl) ?_;(refine au ?_);exact rfl)
  | false=>
   refine aa ?_;refine ad rfl ?_ ?_ <;> intro h
   ·have k2:=ot h;dsimp only at k2;rw [if_pos (.inr ⟨rfl,om⟩)] at hR;subst hR;refine aa ?_;(refine jJ [_,_] rfl (by kernel_rfl) ?_;(refine au ?_);exact rfl)
   ·have k2:=oF h;dsimp only at k2;rw [if_neg (by simp;omega),if_neg sm] at hR;subst hR;have hmx:=aU.mk (show IntKind.u64.wrap ((rgas:Int) - gas)=((rgas - gas:Nat):Int) by rw [wu64];omega);refine aa ?_;(refine jJ [_,_] rfl (by kernel_rfl) ?_;(refine au ?_);exact rfl)
 ·have k1:=ot h;rw [if_pos (.inl om)] at hR;subst hR;refine aa ?_;(refine jJ [_,_] rfl (by kernel_rfl) ?_;(refine au ?_);exact rfl)
end
section
variable {G:GS}
attribute [local irreducible] ak aB aD aI aN vC aW aw
def Cd (b e:eY):Prop:=b.prio < e.prio∨(b.prio=e.prio∧e.order < b.order)
instance (b e:eY):Decidable (Cd b e):=by unfold Cd;exact inferInstance
def uM (e:eY) (out:List eY):Nat→Nat
 | 0=>0
 | k + 1=>match out[k]? with
  | none=>k + 1
  | some b=>if Cd b e then uM e out k else k + 1
theorem xZ (e:eY) (out:List eY): ∀k,uM e out k≤k
 | 0=>a₃ 0
 | k + 1=>by
  have:=xZ e out k
  unfold uM
  split
  ·exact a₃ _
  ·split <;> omega
theorem KE {e b:eY} {out:List eY} {k:Nat} (h:out[k]? =some b):uM e out (k + 1)=if Cd b e then uM e out k else k + 1:=by
 show(match out[k]? with | none=>k + 1 | some b=>if Cd b e then uM e out k else k + 1)=_
 rw [h]
def rU:List eY→List eY→List eY
 | [],out=>out
 | e :: r,out=>rU r (out.take (uM e out out.length) ++ e :: out.drop (uM e out out.length))
def rV (l:List eY):List eY:=rU l []
theorem wH: ∀(l out:List eY),(rU l out).length=l.length + out.length
 | [],out=>by simp [rU]
 | e :: r,out=>by
  have hk:=xZ e out out.length
  rw [rU,wH r,a₂,c₇,b₂,b₀,c₇]
  omega
theorem wI: ∀(l out:List eY),∀x∈rU l out,x∈l∨x∈out
 | [],out=>fun x hx=> .inr hx
 | e :: r,out=>fun x hx=>by
  rcases wI r _ x hx with h | h
  ·exact .inl (b₇ _ h)
  ·rcases b₅.1 h with h | h
   ·exact .inr (c₀ h)
   ·rcases c₈.1 h with rfl | h
    ·exact .inl (b₉ ..)
    ·exact .inr (b₆ h)
theorem wJ (l:List eY):(rV l).length=l.length:=by unfold rV;rw [wH];simp
theorem wK (l:List eY): ∀x∈rV l,x∈l:=fun x hx=>by
 rcases wI l [] x hx with h | h
 ·exact h
 ·exact absurd h sm
theorem Iz (l:List eY) (hl:l.length < 1000000):aQ Tryz.prog G 264 [.sl l.length (l.map bN)] [] 0 (.sl l.length ((rV l).map bN)) [] 0:=by
 have hlen:=wJ l;generalize hR:rV l=R at *;unfold rV at hR;refine dw seat Tryz.func264 66 ?_;refine aa ?_;refine av (Nat×List eY) (fun x=> [(9, .int .i64 x.1),(8, .int .i64 l.length),(7, .sl l.length (l.map bN)),(3, .sl x.2.length (x.2.map bN))]) (fun _=> []) 0 (fun x=>x.1≤l.length∧x.2.length=x.1∧rU (l.drop x.1) x.2=R) (fun x=>l.length - x.1) (0,[]) ⟨a₇ _,rfl,by rw [b₈];exact hR⟩ (by dsimp only;exact(vm [] [])) ?_;rintro⟨i,out⟩ ⟨hi,hol,hI⟩;try dsimp only
 dsimp only at hi hol hI;refine aa ?_;refine ad rfl ?_ ?_ <;> intro h
 ·have hi':i < l.length:=by have:=ot h;omega
  have hel:=eG hi';rw [a₄ hi',rU] at hI;generalize l[i] =e at *;have hel:=aj.mk hel;have hKle:=xZ e out out.length;obtain⟨K,hK⟩: ∃K,uM e out out.length=K:=⟨_,rfl⟩
  rw [hK] at hKle hI;refine aa ?_;refine pj Nat (fun k=> [(6, .int .i64 k),(5, .ptr 0 41 0 0 []),(9, .int .i64 i),(8, .int .i64 l.length),(7, .sl l.length (l.map bN)),(3, .sl out.length (out.map bN))]) (fun _=> [(0,⟨215,41,false,0,[bN e]⟩)]) (fun _=>1) (fun k=>k=K) (fun JQ hj=>?_) (fun k hki=>?_)
  ·refine av Nat (fun k=> [(6, .int .i64 k),(5, .ptr 0 41 0 0 []),(9, .int .i64 i),(8, .int .i64 l.length),(7, .sl l.length (l.map bN)),(3, .sl out.length (out.map bN))]) (fun _=> [(0,⟨215,41,false,0,[bN e]⟩)]) 1 (fun k=>k≤out.length∧uM e out k=K) (fun k=>k) out.length ⟨a₃ _,hK⟩ (vm [(0,_)] []) ?_;rintro k ⟨hki,hKk⟩;try dsimp only
   have hk1:0 < k→∃b,out[k - 1]? =some b∧aj (bF (out.map bN) out.length ((k:Int) - 1)) (bN b):=fun hk0=>by
    have hk':k - 1 < out.length:=om;have:=eG hk';rw [show ((k - 1:Nat):Int)=(k:Int) - 1 by omega] at this;exact⟨_,List.getElem?_eq_getElem hk',aj.mk this⟩
   refine aa ?_;refine al [ae 0,ae 1,ae 2,ae 3,ae 4,ae 5,ae 6,ae 7,ae 8,ae 9,ae 10,ae 11,ae 12,ae 13,ae 14,ae 15,ae 16,ae 17,ae 18,ae 19,ae 20,ae 21,ae 22,ae 23,ae 24,ae 25,ae 26,ae 27,ae 28,ae 29,ae 30,ae 31,ae 32,ae 33,ae 34] ?_;refine aa ?_;refine eP rfl rfl ?_ rfl ?_ <;> intro h
   ·have hk0:0 < k:=by have:=ot h;omega
    obtain⟨b,hob,hrow⟩:=hk1 hk0;obtain⟨j,rfl⟩: ∃j,k=j + 1:=⟨k - 1,om⟩
    clear hk1;rw [Nat.add_sub_cancel] at hob;rw [KE hob] at hKk;have hT:(b.prio < e.prio∨(b.prio=e.prio∧e.order < b.order))→uM e out j=K:=fun hc=>(if_pos (c:=Cd b e) hc).symm.trans hKk
    have hF: ¬ (b.prio < e.prio∨(b.prio=e.prio∧e.order < b.order))→j + 1=K:=fun hc=>(if_neg (c:=Cd b e) hc).symm.trans hKk
    clear hK hI hob hKk;obtain⟨b1,b2,b3,b4,b5,b6,b7,b8,b9,b10⟩:=b;obtain⟨e1,e2,e3,e4,e5,e6,e7,e8,e9,e10⟩:=e;unfold bN at hrow ⊢;dsimp only at hrow hT hF ⊢;refine aa ?_;refine eP rfl rfl ?_ rfl ?_ <;> intro h
    ·have q1:=oF h;refine aa ?_;refine eP rfl rfl ?_ rfl ?_ <;> intro h
     ·have q2:=ot h;refine aa ?_;refine ad rfl ?_ ?_ <;> intro h
      ·have q3:=ot h;refine aa ?_;exact⟨j,⟨by show j≤out.length;omega,hT om⟩,by show j < j + 1;omega,(by dsimp only;exact(vm [(0,_)] []))⟩
      ·have q3:=oF h;refine aa ?_;exact hj.nrm (j + 1) (hF om) (vm [(0,_)] [])
     ·have q2:=oF h;refine aa ?_;exact hj.nrm (j + 1) (hF om) (vm [(0,_)] [])
    ·have q1:=ot h;refine aa ?_;exact⟨j,⟨by show j≤out.length;omega,hT om⟩,by show j < j + 1;omega,(by dsimp only;exact(vm [(0,_)] []))⟩
   ·have hk0:k=0:=by have:=oF h;omega
    refine aa ?_;exact hj.nrm k (by rw [← hKk,hk0];rfl) (vm [(0,_)] [])
  ·subst hki;obtain⟨Z,hZ⟩: ∃Z,out.take k ++ e :: out.drop k=Z:=⟨_,rfl⟩
   have hki:k≤out.length:=hKle;have hZl:Z.length=out.length + 1:=by rw [← hZ];simp;omega
   rw [hZ] at hI;have fb1:=aj.mk (jo (n:=out.length) (k:=k) (κ:= .i64) hki);have fb2:=aj.mk (fW (n:=out.length) (k:=k) (κ:= .i64) hki);have fb3:=bE.mk (eL out);clear hK;try dsimp only
   refine aa ?_;refine al [ae 0,ae 1,ae 2,ae 3,ae 4,ae 5,ae 6,ae 7,ae 8,ae 9,ae 10,ae 11,ae 12] ?_;refine aa ?_;refine aZ rfl (by intro R hR;refine cI hR ?_;refine a₀ ((by show aY (cutL _ 0 k) 41=true;rw [cut_take];exact eL _)) ?_;refine a₀ ⟨rfl,ai (by kernel_rfl) pf⟩ ?_;refine⟨(out.take k).map bN,sv (by show [] ++ cutL _ 0 k=_;rw [a₆,cut_take]),k,sv pf,?_⟩;exact hR) rfl ?_;refine aa ?_;refine aZ rfl (by intro R hR;refine cI hR ?_;(refine a₀ (a₃ _) ?_;refine⟨_,rfl,?_⟩;refine a₀ ⟨(by simp <;> omega),ai (by kernel_rfl) pf⟩ ?_;refine⟨(out.take k ++ [e]).map bN,sv (by rw [a₅];rfl),k+1,sv pf,?_⟩);exact hR) rfl ?_;refine aa ?_;refine aZ rfl (by intro R hR;refine cI hR ?_;refine a₀ ((by show aY (cutL _ k out.length) 41=true;rw [dN];exact eL _)) ?_;refine a₀ ⟨(by simp <;> omega),ai (by kernel_rfl) pf⟩ ?_;refine⟨Z.map bN,sv (by rw [← hZ];show _ ++ cutL _ k out.length=_;rw [dN];simp),Z.length,sv pf,?_⟩;exact hR) rfl ?_;refine aa ?_;exact⟨(i + 1,Z),⟨dm,dm,hI⟩,dm,(by dsimp only;exact(vm [] [(12,Z.length)]))⟩
 ·have hi':i=l.length:=by have:=oF h;omega
  subst hi';rw [b₄] at hI;have hI:out=R:=hI;subst hI;refine aa ?_;rw [← hol];(refine LI [_] rfl (by kernel_rfl) ?_;(refine au ?_);exact rfl)
end
section
variable {G:GS}
attribute [local irreducible] ak aB aD aI aN vC aW aw
theorem Ap (p s t m:Int): ∀(O:List eY) (c b:Int),∀e∈(selG p s t m O c b).1,e∈O
 | [],c,b=>by simp [selG]
 | x :: O,c,b=>by
  unfold selG
  split
  ·simp
  ·have ih:=Ap p s t m O (c - 1) (b - x.raw.length)
   generalize selG p s t m O (c - 1) (b - x.raw.length)=r at *
   obtain⟨v,c',b'⟩:=r
   intro e he
   rcases c₈.1 he with rfl | he
   ·exact b₉ ..
   ·exact b₇ _ (ih e he)
theorem Aq (p s t m:Int): ∀(O:List eY) (c b:Int),(selG p s t m O c b).1.length≤O.length
 | [],c,b=>by simp [selG]
 | x :: O,c,b=>by
  unfold selG
  split
  ·simp
  ·have ih:=Aq p s t m O (c - 1) (b - x.raw.length)
   generalize selG p s t m O (c - 1) (b - x.raw.length)=r at *
   obtain⟨v,c',b'⟩:=r
   simp only [c₇]
   dsimp only at ih
   omega
theorem KF (p s t m:Int) (l:List eY) (hk: ∀e∈l,e.key.length=32):dD (mH p s t m l).1∧(mH p s t m l).1.length≤l.length:=by
 have h1:=Ap p s t m (bO l) l.length (bytesS l);have h2:=Aq p s t m (bO l) l.length (bytesS l);rw [rj] at h2;unfold mH;generalize selG p s t m (bO l) l.length (bytesS l)=r at *;obtain⟨v,c,b⟩:=r;dsimp only at *;split
 ·refine⟨fun x hx=>?_,by simpa using h2⟩;obtain⟨e,he,rfl⟩:=List.mem_map.1 hx;exact hk e ((oz l).mem_iff.1 (h1 e he))
 ·exact⟨fun x hx=>absurd hx (List.not_mem_nil),a₇ _⟩
abbrev k0:List MV:=u8s (d₅ 32 0)
abbrev Fh:MV:= .st [.int .i64 0, .arr 32 1 k0, .int .u64 0, .nils, .nils, .nils, .nils, .nils, .nils, .int .i64 0, .arr 32 1 k0]
theorem Ar [FX:Fx] {B:Nat} (s:jC) (raw:List UInt8) (peer:Int) (hraw:raw.length≤1000000) (hs:dV B s) (hB:B≤100000):bZ Tryz.prog G 157 [gD s, .sl raw.length (u8s raw), .int .i64 peer] (fun r=> ∃s' rp,r= .tup [gD s',LJ rp] ∧dV (B + 1) s'):=by
 have hm1:=hs.mono (B':=B + 1) om;have hmx:=hs.cfg.maxTx;have hmt:=hs.cfg.maxTxs;have hmb:=hs.cfg.maxBytes;have c1:=xQ (G:=G) raw.length om;have c2:=mj (G:=G) raw om;have hk32:(gP raw).length=32:=eJ raw;generalize gP raw=key at *;have c3:=MN (G:=G) s.ents key (by have:=hs.ents;omega) hk32 (fun e he=>(hs.entk e he).key);have c4:=LG (G:=G) s.cache key (by have:=hs.cache;omega) hk32 hs.ck;have c5:=Aj (G:=G) s key hs hk32;have hpo:=wE (B:=B) hs hk32;have c6: ∀{i:Int},i < s.ents.length→bZ Tryz.prog G 219 [gD (rk s key), .int .i64 i, .int .i64 peer] (fun r=> ∃s',r=gD s'∧dV (B + 1) s'):=fun hi=>MQ (rk s key) _ peer hi hpo hB
 have hi:=uJ key s.ents;have hil:Ff key s.ents < s.ents.length:=om;generalize Ff key s.ents=i at *;unfold bZ;refine seq' seat Tryz.func157 163 ?_;refine aa ?_;refine ad rfl ?_ ?_ <;> intro h
 ·refine aa ?_;(refine bu [_,_] (by(refine au ?_);exact rfl) (by kernel_rfl) (⟨s,⟨_,_,_,(_,_),(_,_),(_,_),(_,_),(_,_),(_,_),_,_⟩,rfl,hm1⟩))
 ·have hr:=oF h;clear hi;refine aa ?_;refine al [ae 0,ae 1,dj 2,ae 3,ae 4,ae 5,ae 6] ?_;refine aa ?_;refine bQ rfl aA rfl [] (src (c1)) rfl [] trivial (bd _ (by kernel_rfl)) rfl ?_;refine aa ?_;refine ad rfl ?_ ?_ <;> intro h
  ·refine aa ?_;(refine bu [_,_] (by(refine au ?_);exact rfl) (by kernel_rfl) (⟨s,⟨_,_,_,(_,_),(_,_),(_,_),(_,_),(_,_),(_,_),_,_⟩,rfl,hm1⟩))
  ·refine aa ?_;refine aG (src (c2)) rfl rfl aA (by kernel_rfl) ?_;refine aa ?_;refine aG (src (c3)) rfl rfl aA (by kernel_rfl) ?_;refine aa ?_;have hcase:(¬ 0≤i∧¬ 0≤hJ key s.cache 0)∨(0≤i∨0≤hJ key s.cache 0):=om;rcases hcase with ⟨hc1,hc2⟩ | hc
   ·rw [decide_eq_false hc2] at c4;refine ag rfl rfl ?_ rfl ?_ <;> intro h
    rotate_left
    ·exact absurd (ot h) om
    refine aa ?_;refine aG (src (c4)) rfl rfl aA (by kernel_rfl) ?_;refine aa ?_;refine aG (src (c5)) rfl rfl aA (by kernel_rfl) ?_;clear c6 c5 c4 c3 c2 c1;generalize rk s key=s1 at *;have hm2:=hpo.mono (B':=B + 1) om;have d1:=Dg (G:=G) s1.app raw hpo.app om;have hres:iS (uC s1.app raw):=(jQ hpo.app.2.1).2;generalize uC s1.app raw=r at *;have d2:=oA (G:=G) s1 key hpo hk32;have hf2:=(mI (k:=key) hpo).mono (B':=B + 1) om;generalize kD s1 key=sf at *;have d3:=Ds (G:=G) s1 r.gas hpo;have hmt:=hpo.cfg.maxTxs;have hmb:=hpo.cfg.maxBytes;have d4:=Fc (G:=G) s1.ents (by have:=hpo.ents;omega) (fun e he=>by have:=(hpo.entk e he).raw;omega) r.prio raw.length s1.cfg.maxTxs s1.cfg.maxBytes om om;have hsel:=KF r.prio raw.length s1.cfg.maxTxs s1.cfg.maxBytes s1.ents (fun e he=>(hpo.entk e he).key);have d5:=p9 (G:=G) s1 key hpo hk32;have hd5:=(nw (k:=key) hpo).mono (B':=B + 1) om;generalize rl s1 key=sd at *;unfold MK at d4;generalize mH r.prio raw.length s1.cfg.maxTxs s1.cfg.maxBytes s1.ents=sel at *;obtain⟨ks,okk⟩:=sel;dsimp only at d4 hsel;refine Nu ?_;refine wG ([(1, .sl raw.length (u8s raw)),(2, .int .i64 peer),(3, .ptr 0 25 0 0 []),(6, .ptr 1 25 0 0 []),(7, .ptr 2 73 0 0 []),(8, .ptr 3 32 0 0 [])]) ([(0,⟨75,25,false,0,[gD s1]⟩),(1,⟨75,25,false,0,[Dt]⟩),(2,⟨163,73,false,0,[Fh]⟩),(3,⟨68,32,false,0,[keyM key]⟩)]) (4) (vm [(0,_),(1,_),(2,_),(3,_)] []) ?_;refine aa ?_;refine aG (src (d1)) rfl rfl aA (by kernel_rfl) ?_;refine aa ?_;refine ad rfl ?_ ?_ <;> intro h
    ·refine aa ?_;refine al [ae 0,ae 1,dj 2,ae 3,ae 4,ae 5,ae 6,ae 7] ?_;refine aa ?_;refine bQ rfl aA rfl [] (src (d2)) rfl [] trivial (bd _ (by kernel_rfl)) rfl ?_;refine aa ?_;(refine bu [_,_] (by(refine au ?_);exact rfl) (by kernel_rfl) (⟨sf,⟨_,_,_,(_,_),(_,_),(_,_),(_,_),(_,_),(_,_),_,_⟩,rfl,hf2⟩))
    ·refine aa ?_;refine aG (src (d3)) rfl rfl aA (by kernel_rfl) ?_;refine aa ?_;refine ad rfl ?_ ?_ <;> intro h
     ·refine aa ?_;refine aG (src (d2)) rfl rfl aA (by kernel_rfl) ?_;refine aa ?_;(refine bu [_,_] (by(refine au ?_);exact rfl) (by kernel_rfl) (⟨sf,⟨_,_,_,(_,_),(_,_),(_,_),(_,_),(_,_),(_,_),_,_⟩,rfl,hf2⟩))
     ·refine aa ?_;refine aG (d4) rfl rfl aA (by kernel_rfl) ?_;refine aa ?_;refine ad rfl ?_ ?_ <;> intro h
      ·refine aa ?_;refine aG (src (d5)) rfl rfl aA (by kernel_rfl) ?_;refine aa ?_;(refine bu [_,_] (by(refine au ?_);exact rfl) (by kernel_rfl) (⟨sd,⟨_,_,_,(_,_),(_,_),(_,_),(_,_),(_,_),(_,_),_,_⟩,rfl,hd5⟩))
      ·obtain⟨hk,hkl⟩:=hsel;clear d1 d2 d3 d4 d5;have hkb:ks.length≤100000:=by have:=hpo.ents;omega
       refine aa ?_;refine av (Nat×jC) (fun x=> [(102, .int .i64 x.1),(101, .int .i64 ks.length),(100, .sl ks.length (ks.map keyM)),(11, .sl ks.length (ks.map keyM)),(1, .sl raw.length (u8s raw)),(2, .int .i64 peer),(3, .ptr 0 25 0 0 []),(6, .ptr 1 25 0 0 []),(7, .ptr 2 73 0 0 []),(8, .ptr 3 32 0 0 []),(10, .ptr 4 5 0 0 [])]) (fun x=> [(0,⟨75,25,false,0,[gD x.2]⟩),(1,⟨75,25,false,0,[Dt]⟩),(2,⟨163,73,false,0,[Fh]⟩),(3,⟨68,32,false,0,[keyM key]⟩),(4,⟨48,5,false,0,[eA r]⟩)]) 5 (fun x=>x.1≤ks.length∧dV B x.2) (fun x=>ks.length - x.1) (0,s1) ⟨a₇ _,hpo⟩ (by dsimp only;exact(vm [(0,_),(1,_),(2,_),(3,_),(4,_)] [])) ?_;rintro⟨k,s2⟩ ⟨hki,hs2⟩;try dsimp only
       dsimp only at hki hs2;refine aa ?_;refine ad rfl ?_ ?_ <;> intro h
       ·have hk':k < ks.length:=by have:=ot h;omega
        have hel:=aj.mk (p8 hk');have hkk:=hk _ (a₉ hk');generalize ks[k] =q at *;have e1:=nz (G:=G) s2 q hs2 hB hkk;have o1:=lu (k:=q) hs2;generalize jb s2 q=lv at *;obtain⟨s3,b3⟩:=lv;dsimp only at e1 o1;have e2:=p9 (G:=G) s3 q o1 hkk;have o2:=nw (k:=q) o1;generalize rl s3 q=s4 at *;refine aa ?_;refine aG (src (e1)) rfl rfl aA (by kernel_rfl) ?_;refine aa ?_;refine aG (src (e2)) rfl rfl aA (by kernel_rfl) ?_;refine aa ?_;exact⟨(k + 1,s4),⟨dm,o2⟩,dm,(by dsimp only;exact(vm [(0,_),(1,_),(2,_),(3,_),(4,_)] []))⟩
       ·have e3:=Aa (G:=G) s2.app raw hs2.app om;have o3:dV B { s2 with app:=lr s2.app raw }:=⟨hs2.cfg,uD hs2.app,hs2.height,hs2.time,hs2.arr,hs2.ents,hs2.entk,hs2.cache,hs2.ck,hs2.fx⟩;generalize lr s2.app raw=a3 at *;refine aa ?_;refine aG (src (e3)) rfl rfl aA (by kernel_rfl) ?_;refine Nu ?_;refine wG ([(1, .sl raw.length (u8s raw)),(2, .int .i64 peer),(3, .ptr 0 25 0 0 []),(6, .ptr 1 25 0 0 []),(7, .ptr 2 73 0 0 []),(8, .ptr 3 32 0 0 []),(10, .ptr 4 5 0 0 []),(11, .sl ks.length (ks.map keyM))]) ([(0,⟨75,25,false,0,[gD { s2 with app:=a3 }]⟩),(1,⟨75,25,false,0,[Dt]⟩),(2,⟨163,73,false,0,[Fh]⟩),(3,⟨68,32,false,0,[keyM key]⟩),(4,⟨48,5,false,0,[eA r]⟩)]) (5) (vm [(0,_),(1,_),(2,_),(3,_),(4,_)] []) ?_;generalize { s2 with app:=a3 }=s3 at *;have e4:=Ak (G:=G) peer;generalize qa peer=bp at *;refine aa ?_;refine al [ae 0,ae 1,ae 2,ae 3,ae 4,ae 5,ae 6,ae 7,ae 8,ae 9,ae 10,ae 11,ae 12,ae 13,ae 14,ae 15,ae 16,ae 17,ae 18,ae 19,ae 20] ?_;refine aa ?_;refine aZ rfl (by intro R hR;refine cI hR ?_;refine a₀ ((bP raw)) ?_;refine a₀ ⟨rfl,ai (by kernel_rfl) pf⟩ ?_;refine⟨u8s raw,sv (by show [] ++ u8s raw=_;rw [a₆]),raw.length,sv pf,?_⟩;exact hR) rfl ?_;refine aa ?_;refine aG (src (e4)) rfl rfl aA (by kernel_rfl) ?_;refine sB (List Int) (fun ps=> [(3, .ptr 0 25 0 0 []),(6, .ptr 1 25 0 0 []),(7, .ptr 2 73 0 0 []),(8, .ptr 3 32 0 0 []),(10, .ptr 4 5 0 0 []),(11, .sl ks.length (ks.map keyM)),(15, .ptr 5 41 0 0 [])]) (fun ps=> [(0,⟨75,25,false,0,[gD s3]⟩),(1,⟨75,25,false,0,[Dt]⟩),(2,⟨163,73,false,0,[Fh]⟩),(3,⟨68,32,false,0,[keyM key]⟩),(4,⟨48,5,false,0,[eA r]⟩),(5,⟨215,41,false,0,[bN ⟨key,raw,r.sender,r.seq,r.gas,r.prio,s3.height,s3.time,s3.arr,ps⟩]⟩)]) (fun _=>6) (fun ps=>ps.length≤1) (fun JQ hj=>?_) (fun ps hps=>?_)
        ·refine aa ?_;refine ad rfl ?_ ?_ <;> intro h
         ·refine aa ?_;exact hj.nrm [peer] (a₃ 1) (vm [(0,_),(1,_),(2,_),(3,_),(4,_),(5,_)] [(8,raw.length),(28,1)])
         ·refine aa ?_;exact hj.nrm [] (a₇ 1) (vm [(0,_),(1,_),(2,_),(3,_),(4,_),(5,_)] [(8,raw.length)])
        ·generalize hen:(⟨key,raw,r.sender,r.seq,r.gas,r.prio,s3.height,s3.time,s3.arr,ps⟩:eY)=en;have hs4:dV (B + 1) { s3 with ents:=s3.ents ++ [en],arr:=s3.arr + 1 }:=by
          have hm:=o3.mono (B':=B + 1) om;have ha:=o3.arr;refine⟨hm.cfg,hm.app,hm.height,hm.time,dm,by have:=o3.ents;dsimp only;rw [a₂,b₃];omega,fun x hx=>?_,hm.cache,hm.ck,hm.fx⟩;rcases b₅.1 hx with hx | hx
          ·exact hm.entk x hx
          ·obtain rfl:=c₂.1 hx;rw [← hen];have:=o3.height;have:=o3.time;have:=hs.cfg.maxTx;exact⟨hk32,dm,hres.2.1,dm,dm,dm,by have:=hres.2.2.2.1;unfold bo at this;dsimp only;omega⟩
         have hen9:s3.ents.length≤100000:=by have:=o3.ents;omega
         have hra:=o3.arr;obtain⟨W,hW⟩: ∃W,W=s3.ents ++ [en] :=⟨_,rfl⟩
         have hWl:W.length=s3.ents.length + 1:=by rw [hW];simp
         rw [← hW] at hs4;try dsimp only
         refine aa ?_;refine al [ae 0,ae 1,ae 2,ae 3,ae 4,ae 5,ae 6,ae 7,ae 8] ?_;refine aa ?_;refine aZ rfl (by intro R hR;refine cI hR ?_;refine a₀ ((eL _)) ?_;refine a₀ ⟨rfl,ai (by kernel_rfl) pf⟩ ?_;refine⟨s3.ents.map bN,sv (by rfl),s3.ents.length,sv pf,?_⟩;exact hR) rfl ?_;refine aa ?_;refine aZ rfl (by intro R hR;refine cI hR ?_;(refine a₀ (a₃ _) ?_;refine⟨_,rfl,?_⟩;refine a₀ ⟨sm,ai (by kernel_rfl) pf⟩ ?_;refine⟨W.map bN,sv (by rw [hW];simp;rfl),W.length,sv pf,?_⟩);exact hR) rfl ?_;refine Nu ?_;refine wG ([(3, .ptr 0 25 0 0 []),(6, .ptr 1 25 0 0 []),(7, .ptr 2 73 0 0 []),(8, .ptr 3 32 0 0 []),(10, .ptr 4 5 0 0 []),(11, .sl ks.length (ks.map keyM))]) ([(0,⟨75,25,false,0,[gD { s3 with ents:=W,arr:=s3.arr + 1 }]⟩),(1,⟨75,25,false,0,[Dt]⟩),(2,⟨163,73,false,0,[Fh]⟩),(3,⟨68,32,false,0,[keyM key]⟩),(4,⟨48,5,false,0,[eA r]⟩)]) (5) (vm [(0,_),(1,_),(2,_),(3,_),(4,_)] [(12,W.length)]) ?_;generalize { s3 with ents:=W,arr:=s3.arr + 1 }=s5 at *;refine aa ?_;refine al [ae 0,ae 1,ae 2,ae 3,ae 4,ae 5,ae 6,ae 7] ?_;refine aa ?_;(refine bu [_,_] (by(refine au ?_);exact rfl) (by kernel_rfl) (⟨s5,⟨_,_,_,(_,_),(_,_),(_,_),(_,_),(_,_),(_,_),_,_⟩,rfl,hs4⟩))
   ·clear c1 c2 c3;by_cases hi0:0≤i
    ·clear c4;refine ag rfl rfl ?_ rfl ?_ <;> intro h
     ·exact absurd (oF h) om
     refine aa ?_;refine aG (src (c5)) rfl rfl aA (by kernel_rfl) ?_;refine aa ?_;refine aM (c6 hil) rfl rfl aA (by kernel_rfl) ?_;rintro _ ⟨s',rfl,hs'⟩;refine aa ?_;(refine bu [_,_] (by(refine au ?_);exact rfl) (by kernel_rfl) (⟨s',⟨_,_,_,(_,_),(_,_),(_,_),(_,_),(_,_),(_,_),_,_⟩,rfl,hs'⟩))
    ·rw [decide_eq_true om] at c4;refine ag rfl rfl ?_ rfl ?_ <;> intro h
     rotate_left
     ·exact absurd (ot h) om
     refine aa ?_;refine aG (src (c4)) rfl rfl aA (by kernel_rfl) ?_;refine aa ?_;refine aG (src (c5)) rfl rfl aA (by kernel_rfl) ?_;refine aa ?_;refine aM (c6 hil) rfl rfl aA (by kernel_rfl) ?_;rintro _ ⟨s',rfl,hs'⟩;refine aa ?_;(refine bu [_,_] (by(refine au ?_);exact rfl) (by kernel_rfl) (⟨s',⟨_,_,_,(_,_),(_,_),(_,_),(_,_),(_,_),(_,_),_,_⟩,rfl,hs'⟩))
end
section
variable {G:GS}
attribute [local irreducible] ak aB aD aI aN vC aW aw
def pruneS (l:List eY):List (List UInt8)→List (List UInt8)
 | [] => []
 | k :: r=>if 0≤Ff k l then k :: pruneS l r else pruneS l r
theorem rn (l:List eY): ∀s,dD s→dD (pruneS l s)∧(pruneS l s).length≤s.length
 | [],h=>⟨h,a₃ _⟩
 | k :: r,h=>by
  have ih:=rn l r fun x hx=>h x (b₇ _ hx)
  unfold pruneS
  split
  ·exact⟨fun x hx=>(c₈.1 hx).elim (fun e=>e▸h k (b₉ ..)) (ih.1 x),by simp;omega⟩
  ·exact⟨ih.1,by simp;omega⟩
theorem Dv (s:List (List UInt8)) (l:List eY) (hs:dD s) (hsl:s.length≤1000000) (hl:l.length≤1000000) (he: ∀e∈l,e.key.length=32):aQ Tryz.prog G 232 [.sl s.length (s.map keyM), .sl l.length (l.map bN)] [] 0 (.sl (pruneS l s).length ((pruneS l s).map keyM)) [] 0:=by
 generalize hR:pruneS l s=R;refine dw seat Tryz.func232 24 ?_;refine aa ?_;refine av (Nat×List (List UInt8)) (fun x=> [(10, .int .i64 x.1),(9, .int .i64 s.length),(8, .sl s.length (s.map keyM)),(1, .sl l.length (l.map bN)),(5, .ms 0 32 0 x.2.length)]) (fun x=> [(0,⟨68,32,true,0,x.2.map keyM⟩)]) 1 (fun x=>x.1≤s.length∧x.2.length≤x.1∧x.2 ++ pruneS l (s.drop x.1)=R) (fun x=>s.length - x.1) (0,[]) ⟨a₇ _,a₃ _,by dsimp only;rw [b₈];exact hR⟩ (by dsimp only;exact(vm [] [])) ?_;rintro⟨k,out⟩ ⟨hk,hol,hI⟩;try dsimp only
 dsimp only at hk hol hI;refine aa ?_;refine ad rfl ?_ ?_ <;> intro h
 ·have hk':k < s.length:=by have:=ot h;omega
  have hel:=aj.mk (p8 hk');have h32:=hs _ (a₉ hk');rw [a₄ hk',pruneS] at hI;generalize s[k] =q at *;have c1:=MN (G:=G) l q hl h32 he;generalize Ff q l=i at *;obtain⟨W,hW⟩: ∃W,W=out ++ [q] :=⟨_,rfl⟩
  have hWl:W.length=out.length + 1:=by rw [hW];simp
  refine aa ?_;refine aG (src (c1)) rfl rfl aA (by kernel_rfl) ?_;refine aa ?_;refine ad rfl ?_ ?_ <;> intro h
  ·have h0:=ot h;rw [if_pos h0,show out ++ q :: pruneS l (s.drop (k + 1))=W ++ pruneS l (s.drop (k + 1)) by rw [hW];simp] at hI;refine aa ?_;refine aL rfl rfl (by intro R hR;refine cI hR ?_;(refine a₀ (a₃ _) ?_;refine⟨_,rfl,?_⟩;refine a₀ ⟨sm,ai (by kernel_rfl) pf⟩ ?_;refine⟨W.map keyM,sv (by rw [hW];simp;rfl),W.length,sv pf,?_⟩);exact hR) rfl ?_;refine aa ?_;exact⟨(k + 1,W),⟨dm,dm,hI⟩,dm,(by dsimp only;exact(vm [(0,_)] []))⟩
  ·have h0:=oF h;rw [if_neg h0] at hI;refine aa ?_;exact⟨(k + 1,out),⟨dm,dm,hI⟩,dm,(by dsimp only;exact(vm [(0,_)] []))⟩
 ·have hk':k=s.length:=by have:=oF h;omega
  subst hk';rw [b₄,pruneS,d₀] at hI;subst hI;refine aa ?_;refine au ?_;refine⟨[_],[],[(0,out.length)],rfl,rfl,?_,rfl,⟨?_,trivial⟩,?_⟩
  ·exact⟨by show out.length≤(out.map keyM).length;simp,trivial⟩
  ·exact .inr ⟨rfl,rfl,rfl,c₃ (b₁ _),bc keyM out⟩
  ·exact mm
def kF (peer:Int) (sent:List (List UInt8)):List eY→List UInt8×Bool
 | [] =>([],false)
 | e :: r=>if decide (peer∈e.peers)=false∧¬ 0≤hJ e.key sent 0 then(e.raw,true) else kF peer sent r
theorem uN (peer:Int) (sent:List (List UInt8)): ∀l:List eY,(∀e∈l,e.raw.length≤4096)→(kF peer sent l).1.length≤4096
 | [],_=>by simp [kF]
 | e :: r,h=>by
  unfold kF
  split
  ·exact h e (b₉ ..)
  ·exact uN peer sent r fun x hx=>h x (b₇ _ hx)
theorem IA (l:List eY) (peer:Int) (s:List (List UInt8)) (hs:dD s) (hsl:s.length≤1000000) (hl:l.length≤1000000) (he: ∀e∈l,e.key.length=32∧e.peers.length < 1000000000∧e.raw.length≤1000000):aQ Tryz.prog G 235 [.sl l.length (l.map bN), .int .i64 peer, .sl s.length (s.map keyM)] [] 0 (.tup [.sl (kF peer s l).1.length (u8s (kF peer s l).1), .bool (kF peer s l).2]) [] 0:=by
 generalize hR:kF peer s l=R;refine dw seat Tryz.func235 33 ?_;refine aa ?_;refine av Nat (fun x=> [(12, .int .i64 x),(11, .int .i64 l.length),(10, .sl l.length (l.map bN)),(1, .int .i64 peer),(2, .sl s.length (s.map keyM))]) (fun _=> []) 0 (fun x=>x≤l.length∧kF peer s (l.drop x)=R) (fun x=>l.length - x) 0 ⟨a₇ _,by rw [b₈];exact hR⟩ (vm [] []) ?_;clear hR;rintro k ⟨hk,hI⟩;try dsimp only
 refine aa ?_;refine ad rfl ?_ ?_ <;> intro h
 ·have hk':k < l.length:=by have:=ot h;omega
  have hel:=aj.mk (eG hk');have hok:=he _ (a₉ hk');rw [a₄ hk',kF] at hI;generalize l[k] =e at *;have c1:=zZ (G:=G) e.peers peer hok.2.1;have c2:=LG (G:=G) s e.key hsl hok.1 hs;generalize decide (peer∈e.peers)=bp at *;generalize hJ e.key s 0=i at *;refine aa ?_;refine aG (src (c1)) rfl rfl aA (by kernel_rfl) ?_;refine aa ?_;cases bp with
  | true=>
   rw [if_neg sm] at hI;refine aa ?_;exact⟨k + 1,⟨by show k + 1≤l.length;omega,hI⟩,by show l.length - (k + 1) < l.length - k;omega,(by dsimp only;exact(vm [] []))⟩
  | false=>
   by_cases h0:0≤i
   ·rw [if_neg (fun hx=>hx.2 h0)] at hI;rw [decide_eq_true h0] at c2;refine aa ?_;refine aG (src (c2)) rfl rfl aA (by kernel_rfl) ?_;refine aa ?_;exact⟨k + 1,⟨by show k + 1≤l.length;omega,hI⟩,by show l.length - (k + 1) < l.length - k;omega,(by dsimp only;exact(vm [] []))⟩
   ·rw [if_pos ⟨rfl,h0⟩] at hI;rw [decide_eq_false h0] at c2;subst hI;refine aa ?_;refine aG (src (c2)) rfl rfl aA (by kernel_rfl) ?_;refine aa ?_;refine aL rfl rfl (by intro R hR;refine cI hR ?_;refine a₀ ((bP e.raw)) ?_;refine a₀ ⟨rfl,ai (by kernel_rfl) pf⟩ ?_;refine⟨u8s e.raw,sv (by show [] ++ u8s e.raw=_;rw [a₆]),e.raw.length,sv pf,?_⟩;exact hR) rfl ?_;refine aa ?_;refine au ?_;refine⟨[_,_],[],[(18,e.raw.length)],rfl,rfl,?_,rfl,⟨?_,?_,trivial⟩,?_⟩
    ·exact⟨by show e.raw.length≤(u8s e.raw).length;simp [u8s],trivial⟩
    ·exact rv
    ·exact rv
    ·exact mm
 ·have hk':k=l.length:=by have:=oF h;omega
  subst hk';rw [b₄,kF] at hI;subst hI;refine aa ?_;refine au ?_;exact en [_,_]
def iO (price:Nat):List eY→FZ→dK→List (List UInt8)→List (List UInt8)
 | [],_,_,out=>out
 | e :: r,rs,l,out=>if (mJ rs e.raw.length e.gas.toNat).2=true∧(oD l price e.raw).2.code=0∧out.length < 512 then iO price r (mJ rs e.raw.length e.gas.toNat).1 (oD l price e.raw).1 (out ++ [e.raw]) else iO price r rs l out
def jU (s:jC) (b g:Int):List (List UInt8):=if (uL b g).2=false then [] else iO s.app.price (rV s.ents) (uL b g).1 s.app.com []
theorem rq (price:Nat): ∀(l:List eY) (rs:FZ) (lg:dK) (out:List (List UInt8)),(∀e∈l,e.raw.length≤4096)→(∀x∈out,x.length≤4096)→out.length≤512→(∀x∈iO price l rs lg out,x.length≤4096)∧(iO price l rs lg out).length≤512
 | [],rs,lg,out,_,ho,hl=>⟨ho,hl⟩
 | e :: r,rs,lg,out,h,ho,hl=>by
  have hr: ∀e∈r,e.raw.length≤4096:=fun x hx=>h x (b₇ _ hx)
  unfold iO
  split
  ·rename_i hc
   exact rq price r _ _ _ hr (ez ho fun b hb=>by rw [c₂.1 hb];exact h e (b₉ ..)) (by rw [a₂,b₃];omega)
  ·exact rq price r _ _ _ hr ho hl
theorem Fi [FX:Fx] {B:Nat} {s:jC} {b g:Int} (h:dV B s):(∀x∈jU s b g,x.length≤4096)∧(jU s b g).length≤512:=by
 unfold jU;split
 ·exact⟨sm,sm⟩
 ·exact rq _ _ _ _ _ (fun e he=>(h.entk e (wK _ e he)).raw) sm sm
theorem IB {l:List eY} {n k:Nat} (hn:l.length=n) (hk:k < l.length):bF (l.map bN) n (k:Int)=some (bN l[k]):=by subst hn;exact eG hk
theorem KG [FX:Fx] {B:Nat} (s:jC) (b g:Int) (hs:dV B s) (hB:B≤100000) (hb:cj b) (hg:cj g):aQ Tryz.prog G 228 [gD s, .int .i64 b, .int .i64 g] [] 0 (.sl (jU s b g).length ((jU s b g).map bk)) [] 0:=by
 have hents:=hs.ents;have c0:=An (G:=G) b g hb hg;have c1:=Iz (G:=G) s.ents om;have k0:=Du hb hg;have hSl:=wJ s.ents;have hSm:=wK s.ents;have hpr:=hs.app.2.2.2;have hlg:=hs.app.1;generalize hR:jU s b g=R;unfold jU at hR;generalize rV s.ents=S at *;generalize uL b g=lm at *;obtain⟨rs0,ok0⟩:=lm;dsimp only at c0 k0 hR;refine dw seat Tryz.func228 74 ?_;refine aa ?_;refine aG (src (c0)) rfl rfl aA (by kernel_rfl) ?_;refine aa ?_;cases ok0 with
 | false=>
  rw [if_pos rfl] at hR;subst hR;refine aa ?_;refine au ?_;exact en [_]
 | true=>
  rw [if_neg sm] at hR;refine aa ?_;refine aG (c1) rfl rfl aA (by kernel_rfl) ?_;refine aa ?_;refine av (Nat×FZ×dK×List (List UInt8)) (fun x=> [(32, .int .i64 x.1),(31, .int .i64 s.ents.length),(30, .sl s.ents.length (S.map bN)),(9, .ms 3 1 0 x.2.2.2.length),(10, .ptr 2 2 0 0 []),(7, .ptr 1 3 0 0 []),(3, .ptr 0 25 0 0 [])]) (fun x=> [(0,⟨75,25,false,0,[gD s]⟩),(1,⟨321,3,false,0,[Nv x.2.1]⟩),(2,⟨33,2,false,0,[eh x.2.2.1]⟩),(3,⟨41,1,true,0,x.2.2.2.map bk⟩)]) 4 (fun x=>x.1≤s.ents.length∧Fg x.2.1∧eN x.2.2.1∧x.2.2.2.length≤x.1∧iO s.app.price (S.drop x.1) x.2.1 x.2.2.1 x.2.2.2=R) (fun x=>s.ents.length - x.1) (0,rs0,s.app.com,[]) ⟨a₇ _,k0,hlg,a₃ _,by dsimp only;rw [b₈];exact hR⟩ (by dsimp only;exact(vm [(0,_),(1,_),(2,_)] [])) ?_;clear hR c0 c1 k0 hlg;rintro⟨k,rs,lg,out⟩ ⟨hk,hrs,hlg,hol,hI⟩;try dsimp only
  dsimp only at hk hrs hlg hol hI;refine aa ?_;refine ad rfl ?_ ?_ <;> intro h
  ·have hk':k < s.ents.length:=by have:=ot h;omega
   have hel:=aj.mk (IB hSl (show k < S.length by omega));have hmem:=hs.entk _ (hSm _ (a₉ (show k < S.length by omega)));rw [a₄ (show k < S.length by omega),iO] at hI;generalize S[k] =e at *;obtain⟨gs,hgs⟩: ∃gs:Nat,e.gas=gs:=⟨e.gas.toNat,by have:=hmem.gas;omega⟩
   have hgu:bo gs:=by have:=hmem.gas;unfold bo;omega
   have hraw:=hmem.raw;have d1:=Iy (G:=G) rs e gs hgs hrs om hgu;have d2:=E3 (G:=G) lg s.app.price e.raw hlg hpr om;have o1:=Ao (n:=e.raw.length) (gas:=gs) hrs;have o2:=jQ (p:=s.app.price) (raw:=e.raw) hlg;rw [show e.gas.toNat=gs by omega] at hI;clear hmem;generalize mJ rs e.raw.length gs=tk at *;generalize oD lg s.app.price e.raw=tx at *;obtain⟨rs2,fits⟩:=tk;obtain⟨lg2,r⟩:=tx;dsimp only at d1 d2 o1 o2 hI;refine aa ?_;refine aG (src (d1)) rfl rfl aA (by kernel_rfl) ?_;refine aa ?_;refine aG (d2) rfl rfl aA (by kernel_rfl) ?_;refine aa ?_;cases fits with
   | false=>
    rw [if_neg sm] at hI;refine aa ?_;exact⟨(k + 1,rs,lg,out),⟨dm,hrs,hlg,dm,hI⟩,dm,(by dsimp only;exact(vm [(0,_),(1,_),(2,_),(3,_)] []))⟩
   | true=>
    refine aa ?_;refine ag rfl rfl ?_ rfl ?_ <;> intro h
    ·have h1:r.code=0:=by have:=ot h;omega
     refine aa ?_;refine ad rfl ?_ ?_ <;> intro h
     ·have h2:=ot h;rw [if_pos ⟨rfl,h1,om⟩] at hI;have hcut:cutL (u8s e.raw) 0 (0 + e.raw.length)=u8s e.raw:=by rw [cut_u8,b₈,b₁,Nat.sub_zero,c₆]
      have hsf:=bE.mk (show 0 + e.raw.length≤(u8s e.raw).length by simp [u8s]);obtain⟨W,hW⟩: ∃W,W=out ++ [e.raw] :=⟨_,rfl⟩
      have hWl:W.length=out.length + 1:=by rw [hW];simp
      rw [← hW] at hI;refine aa ?_;refine al [ae 0,ae 1,ae 2,ae 3] ?_;refine aa ?_;refine aL rfl rfl (by intro R hR;refine cI hR ?_;refine a₀ ((bP e.raw)) ?_;refine a₀ ⟨rfl,ai (by kernel_rfl) pf⟩ ?_;refine⟨u8s e.raw,sv (by show [] ++ u8s e.raw=_;rw [a₆]),e.raw.length,sv pf,?_⟩;exact hR) rfl ?_;refine aa ?_;refine aL rfl rfl (by intro R hR;refine cI hR ?_;(refine a₀ (a₃ _) ?_;refine⟨_,rfl,?_⟩;refine a₀ ⟨sm,ai (by kernel_rfl) pf⟩ ?_;refine⟨W.map bk,sv (by rw [hW,a₅];show _ ++ [MV.sl e.raw.length (cutL (u8s e.raw) 0 (0 + e.raw.length))] =_;rw [hcut];rfl),W.length,sv pf,?_⟩);exact hR) rfl ?_;refine aa ?_;exact⟨(k + 1,rs2,lg2,W),⟨dm,o1,o2.1,dm,hI⟩,dm,(by dsimp only;exact(vm [(0,_),(1,_),(2,_),(3,_)] []))⟩
     ·have h2:=oF h;rw [if_neg (fun hx=>h2 (by have:=hx.2.2;omega))] at hI;refine aa ?_;exact⟨(k + 1,rs,lg,out),⟨dm,hrs,hlg,dm,hI⟩,dm,(by dsimp only;exact(vm [(0,_),(1,_),(2,_),(3,_)] []))⟩
    ·have h1:=oF h;rw [if_neg (fun hx=>h1 (by have:=hx.2.1;omega))] at hI;refine aa ?_;exact⟨(k + 1,rs,lg,out),⟨dm,hrs,hlg,dm,hI⟩,dm,(by dsimp only;exact(vm [(0,_),(1,_),(2,_),(3,_)] []))⟩
  ·have hk':k=S.length:=by have:=oF h;omega
   subst hk';rw [b₄,iO] at hI;subst hI;refine aa ?_;refine au ?_;refine⟨[_],[],[(3,out.length)],rfl,rfl,?_,rfl,⟨?_,trivial⟩,?_⟩
   ·exact⟨by show out.length≤(out.map bk).length;simp,trivial⟩
   ·exact .inr ⟨rfl,rfl,rfl,c₃ (b₁ _),bc bk out⟩
   ·exact mm
abbrev O3 (r:MV):Prop:= ∃v:Int,r= .int .i64 v∧cj v
theorem KH [FX:Fx] {B:Nat} (s:jC) (raws:List (List UInt8)) (b g:Int) (hs:dV B s) (hb:cj b) (hg:cj g) (hn:raws.length≤1000) (hr: ∀x∈raws,x.length≤4096):bZ Tryz.prog G 233 [gD s,dH raws, .int .i64 b, .int .i64 g] O3:=by
 have c0:=An (G:=G) b g hb hg;have k0:=Du hb hg;have c1:=H9 (G:=G) raws om (fun x hx=>by have:=hr x hx;omega);have c2:=HL (G:=G) s.app.com s.app.price raws hs.app.1 hs.app.2.2.2 om (fun x hx=>by have:=hr x hx;omega);have i0:cj 0:=by simp [cj]
 have i1:cj 1:=by simp [cj]
 have i3:cj 3:=by simp [cj]
 have hst:cj ((fS s.app.price raws 0 s.app.com).2.2:Int):=by
  have: ∀(r:List (List UInt8)) (i:Nat) (l:dK),eN l→(fS s.app.price r i l).2.2≤1000:=by
   intro r
   induction r with
   | nil=>intro i l _;simp [fS]
   | cons x r ih=>
    intro i l hl;have hsm:=jQ (p:=s.app.price) (raw:=x) hl;unfold fS;split
    ·exact hsm.2.1
    ·exact ih _ _ hsm.1
  have:=this raws 0 s.app.com hs.app.1;unfold cj;omega
 generalize fS s.app.price raws 0 s.app.com=sg at *;obtain⟨lgs,ats,es⟩:=sg;generalize uL b g=lm at *;obtain⟨rs0,ok0⟩:=lm;dsimp only at c0 k0 c2 hst;unfold dH at *;unfold bZ;refine seq' seat Tryz.func233 76 ?_;refine aa ?_;refine aG (src (c0)) rfl rfl aA (by kernel_rfl) ?_;refine aa ?_;cases ok0 with
 | false=>
  refine aa ?_;(refine gB [_] (⟨1,rfl,i1⟩) (by kernel_rfl) ?_;(refine au ?_);exact rfl)
 | true=>
  refine aa ?_;refine ag rfl rfl ?_ rfl ?_ <;> intro h
  ·refine aa ?_;refine aG (src (c1)) rfl rfl aA (by kernel_rfl) ?_;refine aa ?_;refine ad rfl ?_ ?_ <;> intro h
   ·refine aa ?_;(refine gB [_] (⟨3,rfl,i3⟩) (by kernel_rfl) ?_;(refine au ?_);exact rfl)
   ·refine aa ?_;refine aG (c2) rfl rfl aA (by kernel_rfl) ?_;refine aa ?_;refine ad rfl ?_ ?_ <;> intro h
    ·refine aa ?_;(refine gB [_] (⟨(es:Int),rfl,hst⟩) (by kernel_rfl) ?_;(refine au ?_);exact rfl)
    ·refine aa ?_;refine av (Nat×FZ) (fun x=> [(54, .int .i64 x.1),(53, .int .i64 raws.length),(52, .sl raws.length (raws.map bk)),(9, .ptr 0 3 0 0 [])]) (fun x=> [(0,⟨321,3,false,0,[Nv x.2]⟩)]) 1 (fun x=>x.1≤raws.length∧Fg x.2) (fun x=>raws.length - x.1) (0,rs0) ⟨a₇ _,k0⟩ (by dsimp only;exact(vm [(0,_)] [])) ?_;clear c0 c1 c2 k0;rintro⟨k,rs⟩ ⟨hk,hrs⟩;try dsimp only
     dsimp only at hk hrs;refine aa ?_;refine ad rfl ?_ ?_ <;> intro h
     ·have hk':k < raws.length:=by have:=ot h;omega
      have hel:=gM hk';have hbl:=hr _ (a₉ hk');generalize raws[k] =raw at *;replace hel:bF (raws.map bk) raws.length (k:Int)=some (.sl raw.length (u8s raw)):=hel;have hel:=aj.mk hel;have d0:=ux (G:=G) raw om;have hsm:=i7 (raw:=raw);generalize aS raw=dt at *;obtain⟨t,et⟩:=dt;dsimp only at d0 hsm;have d1:=Iy (G:=G) rs ⟨d₅ 32 0,raw,[],0,t.gas,0,0,0,0,[]⟩ t.gas rfl hrs dm hsm.2.2.1;have o1:=Ao (n:=raw.length) (gas:=t.gas) hrs;generalize mJ rs raw.length t.gas=tk at *;obtain⟨rs2,fits⟩:=tk;dsimp only at d1 o1;refine aa ?_;refine aG (d0) rfl rfl aA (by kernel_rfl) ?_;refine aa ?_;refine dL (d1) ?_;cases fits with
      | false=>
       refine aa ?_;(refine gB [_] (⟨3,rfl,i3⟩) (by kernel_rfl) ?_;(refine au ?_);exact rfl)
      | true=>
       refine aa ?_;exact⟨(k + 1,rs2),⟨dm,o1⟩,dm,(by dsimp only;exact(vm [(0,_)] []))⟩
     ·refine aa ?_;(refine gB [_] (⟨0,rfl,i0⟩) (by kernel_rfl) ?_;(refine au ?_);exact rfl)
  ·refine aa ?_;(refine gB [_] (⟨3,rfl,i3⟩) (by kernel_rfl) ?_;(refine au ?_);exact rfl)
theorem MR (m:Nat) (k:Nat) (j:Int) (hj:(min j.toNat IntKind.i64.bits)=k):((m:Int).fdiv (2 ^ (min j.toNat IntKind.i64.bits)))=((m / 2 ^ k:Nat):Int):=by
 rw [hj,Int.fdiv_eq_ediv_of_nonneg _ (Int.le_of_lt (Int.pow_pos om)),Int.natCast_ediv,Int.natCast_pow];rfl
theorem As (log raw:List UInt8) (hl:log.length≤16777216) (hr:raw.length≤5000000):bZ Tryz.prog G 230 [.sl log.length (u8s log), .sl raw.length (u8s raw)] (fun r=> ∃(out:List UInt8) (e:Int),r= .tup [.sl out.length (u8s out), .int .i64 e] ∧cj e∧out.length≤16777216):=by
 have c1:=mj (G:=G) raw om;have hq:=eJ raw;generalize gP raw=q at *;have i0:cj 0:=by simp [cj]
 have i3:cj 3:=by simp [cj]
 obtain⟨n,hn⟩: ∃n,n=raw.length:=⟨_,rfl⟩
 have s1:=aU.mk (MR n 24 24 rfl);have s2:=aU.mk (MR n 16 16 rfl);have s3:=aU.mk (MR n 8 8 rfl);have w0:=aU.mk (JY n);have w1:=aU.mk (JY (n / 2 ^ 24));have w2:=aU.mk (JY (n / 2 ^ 16));have w3:=aU.mk (JY (n / 2 ^ 8));obtain⟨W1,hW1⟩: ∃W,W=log ++ [UInt8.ofNat (n / 2 ^ 24),UInt8.ofNat (n / 2 ^ 16),UInt8.ofNat (n / 2 ^ 8),UInt8.ofNat n] :=⟨_,rfl⟩
 have hl1:W1.length=log.length + 4:=by rw [hW1];simp
 obtain⟨W2,hW2⟩: ∃W,W=W1 ++ q.take 4:=⟨_,rfl⟩
 have hl2:W2.length=log.length + 8:=by rw [hW2,a₂,b₂];omega
 obtain⟨W3,hW3⟩: ∃W,W=W2 ++ raw:=⟨_,rfl⟩
 have hl3:W3.length=log.length + 8 + raw.length:=by rw [hW3,a₂];omega
 unfold bZ;refine seq' seat Tryz.func230 46 ?_;refine aa ?_;refine ag rfl rfl ?_ rfl ?_ <;> intro h
 ·have k1:=oF h;refine aa ?_;refine ad rfl ?_ ?_ <;> intro h
  ·refine aa ?_;(refine bu [_,_] (by(refine au ?_);exact rfl) (by kernel_rfl) (⟨[],3,rfl,i3,a₇ _⟩))
  ·have k2:=oF h;refine aa ?_;refine aG (src (c1)) rfl rfl aA (by kernel_rfl) ?_;refine aa ?_;refine aL rfl rfl (by intro R hR;refine cI hR ?_;refine a₀ ((bP log)) ?_;refine a₀ ⟨rfl,ai (by kernel_rfl) pf⟩ ?_;refine⟨u8s log,sv (by show [] ++ u8s log=_;rw [a₆]),log.length,sv pf,?_⟩;exact hR) rfl ?_;simp only [← hn];refine aa ?_;refine aL rfl rfl (by intro R hR;refine cI hR ?_;refine a₀ ((a₃ _)) ?_;refine⟨_,rfl,?_⟩;refine a₀ ⟨(by simp [u8s]),ai (by kernel_rfl) pf⟩ ?_;refine⟨u8s W1,sv (by rw [hW1];simp [u8s,setL,repM,cutL]),W1.length,sv pf,?_⟩;exact hR) rfl ?_;refine aa ?_;have hc4:cutL (u8s q) 0 4=u8s (q.take 4):=by simp [cutL,u8s,List.map_take]
   have hh4:aY (cutL (u8s q) 0 4) 1=true:=by rw [hc4];exact bP _
   refine aL rfl rfl (by intro R hR;refine cI hR ?_;refine a₀ ((hh4)) ?_;refine a₀ ⟨(by simp [u8s]),ai (by kernel_rfl) pf⟩ ?_;refine⟨u8s W2,sv (by rw [hW2];simp [u8s,cutL,List.map_take]),W2.length,sv pf,?_⟩;exact hR) rfl ?_;refine aa ?_;refine aL rfl rfl (by intro R hR;refine cI hR ?_;refine a₀ ((bP raw)) ?_;refine a₀ ⟨(by simp [u8s]),ai (by kernel_rfl) pf⟩ ?_;refine⟨u8s W3,sv (by rw [hW3];simp [u8s]),W3.length,sv pf,?_⟩;exact hR) rfl ?_;refine Nu ?_;refine wG ([(4, .sl W3.length (u8s W3)),(5, .int .i64 0)]) ([]) (0) (vm [] [(41,W3.length)]) ?_;refine aa ?_;(refine bu [_,_] (by(refine au ?_);exact rfl) (by kernel_rfl) (⟨W3,0,rfl,i0,om⟩))
 ·refine aa ?_;(refine bu [_,_] (by(refine au ?_);exact rfl) (by kernel_rfl) (⟨[],3,rfl,i3,a₇ _⟩))
end
section
def yw (b:dv):List eE:=⟨1,2,0,eD b.hd⟩ :: b.txs.map fun x=>⟨2,2,0,x⟩
def qb (b:dv):List UInt8:=aF (yw b)
structure dI (b:dv):Prop where
 hd:jR b.hd
 n:b.txs.length≤1000
 len: ∀x∈b.txs,x.length≤4096
theorem uO {b:dv} (h:dI b):(∀f∈yw b,iz f∧f.bytes.length≤4096)∧(yw b).length≤1001:=by
 refine⟨fun f hf=>?_,?_⟩
 ·rcases c₈.1 hf with rfl | hf
  ·have:=jf h.hd;exact⟨mD om om om,dm⟩
  ·obtain⟨x,hx,rfl⟩:=List.mem_map.1 hf;have:=h.len x hx;exact⟨mD om om om,this⟩
 ·have:=h.n;unfold yw;rw [c₇,c₁];omega
theorem sJ {b:dv} (h:dI b):(qb b).length≤4200000:=by
 have h1:=eO 4096 _ (uO h).1;have h2:=(uO h).2;unfold qb;have:(yw b).length * (4096 + 20)≤1001 * (4096 + 20):=Nat.mul_le_mul_right _ h2;omega
theorem Fj {b:dv} (h:dI b):aC (qb b)=(yw b,0,0):=by
 have h1:=uO h;have:=jm (yw b) 1024 0 [] (fun f hf=>(h1.1 f hf).1) om;rw [a₆] at this;exact this
theorem wL {h:wx} (hk:jR h):aC (eD h)=(gY h,0,0):=by
 have:=jm (gY h) 1024 0 [] (fun f hf=>(BY hk f hf).1) (by simp [gY]);rw [a₆] at this;exact this
theorem Dw {x:Int} (h:0≤x):((natP x:Nat):Int)=x:=by unfold natP;omega
end
end Go.Proofs.YtohikcplmbkmeaaGreatDoor
