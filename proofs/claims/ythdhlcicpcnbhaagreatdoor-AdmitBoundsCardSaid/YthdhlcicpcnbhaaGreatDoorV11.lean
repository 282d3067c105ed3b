/- Parts of a proof, one behind the other: J7, J8, J9, JA, JB, JC, JD, X7, X9, CV, Shelf2, WU. -/
import Derived.Test.YthdhlcicpcnbhaaGreatDoorV10
open List renaming getElem?_eq_some_iff → a₀,getElem?_append_right → a₁,length_eq_zero_iff → a₂,take_append_drop → a₃,append_nil → a₅,pairwise_append → a₆,getElem?_append_left → a₇,take_succ_eq_append_getElem → a₈,length_append → a₉,append_assoc → b₀,drop_drop → b₁,mem_iff_getElem → b₂,length_map → b₃,nil_append → b₆,map_map → b₇,pairwise_cons → b₈,drop_sublist → c₀,drop_eq_getElem_cons → c₁,take_length → c₂,length_take → c₃,take_sublist → c₄,perm_middle → c₅
open Nat renaming le_refl → a₄,zero_le → b₄,lt_succ_self → b₅,eq_zero_or_pos → b₉,not_lt_zero → c₆
set_option maxRecDepth 20000
set_option maxHeartbeats 16000000
set_option linter.unusedVariables false
set_option linter.unusedSimpArgs false
namespace Go.Proofs.YthdhlcicpcnbhaaGreatDoor
open Go.RowKit
section
variable {G:GS}
theorem JW {x:TE} {B:List TE} (hB:gH B) (ht: ∀y∈B,x.2 < y.2) (hn:dL B) {k:Nat} (h1: ∀q y,B[q]? =some y→q < k→eC y.1 x.1=true) (h2: ∀q y,B[q]? =some y→k≤q→eC y.1 x.1=false) :
  B.take k ++ x :: B.drop k=eK (x :: B):=by
 have hn':dL (x :: B):=b₈.2 ⟨fun y hy=>Nat.ne_of_lt (ht y hy),hn⟩
 have hp:(B.take k ++ x :: B.drop k).Perm (x :: B):=by
  have:=(c₅ (a:=x) (l₁:=B.take k) (l₂:=B.drop k))
  rwa [a₃] at this
 have hB':=hB
 rw [← a₃ k B] at hB'
 obtain⟨s1,s2,s3⟩:=gZ.1 hB'
 have lx: ∀y∈B.take k,kE y x:=fun y hy=>by
  obtain⟨i,hi,rfl⟩:=b₂.1 hy
  simp at hi
  exact befE_t (h1 i _ sm om)
 have rx: ∀y∈B.drop k,kE x y:=fun y hy=>by
  have hm:=List.mem_of_mem_drop hy
  obtain⟨i,hi,rfl⟩:=b₂.1 hy
  simp at hi
  exact mK (h2 (k + i) _ sm om) (ht _ hm)
 exact qQ hp (gZ.2 ⟨s1,b₈.2 ⟨rx,s2⟩,fun z hz y hy=>by
  rcases List.mem_cons.1 hy with rfl | hy
  ·exact lx z hz
  ·exact s3 z hz y hy⟩) hn'
theorem GZ {y:TE} {A:List TE} (hA:gH A) (ht: ∀z∈A,z.2 < y.2) (hn:dL A) {k:Nat} (h1: ∀q z,A[q]? =some z→q < k→eC y.1 z.1=false) (h2: ∀q z,A[q]? =some z→k≤q→eC y.1 z.1=true) :
  A.take k ++ y :: A.drop k=eK (A ++ [y]):=by
 have hn':dL (A ++ [y]):=a₆.2 ⟨hn,sm,fun z hz w hw=>by rw [List.mem_singleton.1 hw];exact Nat.ne_of_lt (ht z hz)⟩
 have hp:(A.take k ++ y :: A.drop k).Perm (A ++ [y]):=by
  have:=(c₅ (a:=y) (l₁:=A.take k) (l₂:=A.drop k))
  rw [a₃] at this
  exact this.trans (List.perm_append_singleton y A).symm
 have hA':=hA
 rw [← a₃ k A] at hA'
 obtain⟨s1,s2,s3⟩:=gZ.1 hA'
 have lx: ∀z∈A.take k,kE z y:=fun z hz=>by
  have hm:=List.mem_of_mem_take hz
  obtain⟨i,hi,rfl⟩:=b₂.1 hz
  simp at hi
  exact mK (h1 i _ sm om) (ht _ hm)
 have rx: ∀z∈A.drop k,kE y z:=fun z hz=>by
  obtain⟨i,hi,rfl⟩:=b₂.1 hz
  simp at hi
  exact befE_t (h2 (k + i) _ sm om)
 exact qQ hp (gZ.2 ⟨s1,b₈.2 ⟨rx,s2⟩,fun z hz w hw=>by
  rcases List.mem_cons.1 hw with rfl | hw
  ·exact lx z hz
  ·exact s3 z hz w hw⟩) hn'
theorem uX (p q:Nat):(((p:Int) + (q:Int)).fdiv (2 ^ (min (1:Int).toNat IntKind.u64.bits)))=(((p + q) / 2:Nat):Int):=by
 rw [show (2:Int) ^ min (1:Int).toNat IntKind.u64.bits=2 by rfl,Int.fdiv_eq_ediv_of_nonneg _ om];omega
theorem Oh (n:Nat) (hN:n < 1152921504606846976) (P B S:List TE) (x:TE) (a b:Nat) (hP:P.length=a) (hb:a + 1 + B.length=b) (hS:b + S.length=n) (hB:gH B) (ht: ∀y∈B,x.2 < y.2) (hn:dL B) :
  aL Tryz.prog G 216 [dX n, .int .i64 a, .int .i64 ((a + 1:Nat):Int), .int .i64 b] (aV n (P ++ (x :: (B ++ S)))) 2 (.tup []) (aV n (P ++ (eK (x :: B) ++ S))) 2:=by
 have hlen:(P ++ (x :: (B ++ S))).length=n:=by simp;omega
 refine bU seat Tryz.func216 177 ?_
 refine ad ?_
 refine ae rfl (fun hd=>?_) (fun hd=>?_)
 ·refine ad ?_
  refine ar (Nat×Nat) (fun q=> [(9, .int .i64 ((a + 1 + q.2:Nat):Int)),(8, .int .i64 ((a + 1 + q.1:Nat):Int)),(4, .ptr 2 2 0 0 []),(1, .int .i64 a)]) (fun q=>aV n (P ++ (x :: (B ++ S))) ++ [(2,⟨229,2,false,0,[dX n]⟩)]) 3 (fun q=>q.1≤q.2∧q.2≤B.length∧(∀k y,B[k]? =some y→k < q.1→eC y.1 x.1=true)∧(∀k y,B[k]? =some y→q.2≤k→eC y.1 x.1=false)) (fun q=>q.2 - q.1) (0,B.length) ⟨om,om,fun _ _ _ h=>absurd h (c₆ _),fun k y h1 h2=>by
    have:=(a₀.1 h1).1;omega⟩ (by(try dsimp only);exact vm [(2,_)] [] (h2:=by exact nF)) ?_
  rintro⟨i,j⟩ ⟨h1,h2,h3,h4⟩
  try dsimp only
  dsimp only at h1 h2 h3 h4
  refine ad ?_
  refine ae rfl (fun hd=>?_) (fun hd=>?_)
  ·have hij:i < j:=by have:=ot hd;omega
   obtain⟨c,hc⟩: ∃c,c=(i + j) / 2:=⟨_,rfl⟩
   obtain⟨y,hy⟩:=ee (l:=B) (i:=c) om
   have hx1:(P ++ (x :: (B ++ S)))[a + 1 + c]? =some y:=by
    rw [a₁ om,show a + 1 + c - P.length=c + 1 by omega,List.getElem?_cons_succ,a₇ (a₀.1 hy).1];exact hy
   have hx2:(P ++ (x :: (B ++ S)))[a]? =some x:=yQ hP
   have hless:=pP (G:=G) n _ hlen _ _ hx1 hx2
   have k2:=aX.mk (uX (a + 1 + i) (a + 1 + j))
   refine ad ?_
   refine yc (hless) [(0,0),(1,1)] ?_
   refine ad ?_
   refine ae rfl (fun hb=>?_) (fun hb=>?_)
   ·refine ad ?_
    exact⟨(c + 1,j),⟨om,h2,fun k z hz hk=>by
     have h5:=befE_t hb
     have hm:=ht z (mO hz)
     rcases nM hB hz hy om with rfl | h
     ·exact hb
     ·exact(uW hm).2 (dF h h5),h4⟩,by show j - (c + 1) < j - i;omega,(by(try dsimp only);exact vm [(2,_)] [] (h2:=by exact nF))⟩
   ·refine ad ?_
    exact⟨(i,c),⟨om,om,h3,fun k z hz hk=>by
     have h5:=mK hb (ht y (mO hy))
     cases hq:eC z.1 x.1 with
     | false=>rfl
     | true=>
      exfalso
      have h6:=befE_t hq
      rcases nM hB hy hz om with rfl | h
      ·exact gY h5 h6
      ·exact gY (dF h5 h) h6⟩,by show c - i < j - i;omega,(by(try dsimp only);exact vm [(2,_)] [] (h2:=by exact nF))⟩
  ·have hij:i=j:=by have:=oF hd;omega
   subst hij
   have hfin:=JW hB ht hn h3 h4
   rw [← hfin]
   refine ad ?_
   refine ar (Nat) (fun q=> [(11, .int .i64 ((a + q:Nat):Int)),(8, .int .i64 ((a + 1 + i:Nat):Int)),(4, .ptr 2 2 0 0 [])]) (fun q=>aV n (P ++ (B.take q ++ (x :: (B.drop q ++ S)))) ++ [(2,⟨229,2,false,0,[dX n]⟩)]) 3 (fun q=>q≤i) (fun q=>i - q) 0 (b₄ _) (by(try dsimp only);exact vm [(2,_)] [] (h2:=by exact nF)) ?_
   intro q hq
   try dsimp only
   refine ad ?_
   refine ae rfl (fun hd=>?_) (fun hd=>?_)
   ·have hqi:q < i:=by have:=ot hd;omega
    obtain⟨y,hy⟩:=ee (l:=B) (i:=q) om
    obtain⟨hq2,hy2⟩:=a₀.1 hy
    have hsw:Df (P ++ (B.take q ++ (x :: (B.drop q ++ S)))) (a + q) (a + (q + 1))=P ++ (B.take (q + 1) ++ (x :: (B.drop (q + 1) ++ S))):=by
     have:=mL (X:=P ++ B.take q) (Y:= []) (Z:=B.drop (q + 1) ++ S) (a:=x) (b:=y) (i:=a + q) (j:=a + (q + 1)) (by simp;omega) (by simp;omega)
     rw [c₁ hq2,hy2,a₈ hq2,hy2]
     simpa using this
    have hlen2:(P ++ (B.take q ++ (x :: (B.drop q ++ S)))).length=n:=by simp;omega
    have hswap:=yO (G:=G) n _ hlen2 (a + q) (a + (q + 1)) om om
    rw [hsw] at hswap
    refine ad ?_
    refine dQ rfl (fun _ h=>h) rfl (hswap) [(0,0),(1,1)] [] ⟨rfl,trivial,rfl,lm,mm⟩ rfl rfl ?_
    refine ad ?_
    exact⟨q + 1,by show q + 1≤i;omega,by show i - (q + 1) < i - q;omega,(by(try dsimp only);exact vm [(2,_)] [] (h2:=by exact nF))⟩
   ·have hqi:q=i:=by have:=oF hd;omega
    subst hqi
    try dsimp only
    rw [show P ++ ((B.take q ++ x :: B.drop q) ++ S)=P ++ (B.take q ++ (x :: (B.drop q ++ S))) by simp]
    refine ad ?_
    exact en []
 ·exfalso
  have:=oF hd
  omega
theorem Oi (n:Nat) (hN:n < 1152921504606846976) (P A S:List TE) (y:TE) (a m:Nat) (hP:P.length=a) (hm:a + A.length=m) (hS:m + 1 + S.length=n) (hA1:A.length≠1) (hA:gH A) (ht: ∀z∈A,z.2 < y.2) (hn:dL A) :
  aL Tryz.prog G 216 [dX n, .int .i64 a, .int .i64 m, .int .i64 ((m + 1:Nat):Int)] (aV n (P ++ (A ++ (y :: S)))) 2 (.tup []) (aV n (P ++ (eK (A ++ [y]) ++ S))) 2:=by
 have hlen:(P ++ (A ++ (y :: S))).length=n:=by simp;omega
 refine bU seat Tryz.func216 177 ?_
 refine ad ?_
 refine ae rfl (fun hd=>?_) (fun hd=>?_)
 ·exfalso
  have:=ot hd
  omega
 refine ad ?_
 refine ae rfl (fun hd=>?_) (fun hd=>?_)
 ·refine ad ?_
  refine ar (Nat×Nat) (fun q=> [(13, .int .i64 ((a + q.2:Nat):Int)),(12, .int .i64 ((a + q.1:Nat):Int)),(4, .ptr 2 2 0 0 []),(2, .int .i64 m)]) (fun q=>aV n (P ++ (A ++ (y :: S))) ++ [(2,⟨229,2,false,0,[dX n]⟩)]) 3 (fun q=>q.1≤q.2∧q.2≤A.length∧(∀k z,A[k]? =some z→k < q.1→eC y.1 z.1=false)∧(∀k z,A[k]? =some z→q.2≤k→eC y.1 z.1=true)) (fun q=>q.2 - q.1) (0,A.length) ⟨om,om,fun _ _ _ h=>absurd h (c₆ _),fun k y h1 h2=>by
    have:=(a₀.1 h1).1;omega⟩ (by(try dsimp only);exact vm [(2,_)] [] (h2:=by exact nF)) ?_
  rintro⟨i,j⟩ ⟨h1,h2,h3,h4⟩
  try dsimp only
  dsimp only at h1 h2 h3 h4
  refine ad ?_
  refine ae rfl (fun hd=>?_) (fun hd=>?_)
  ·have hij:i < j:=by have:=ot hd;omega
   obtain⟨c,hc⟩: ∃c,c=(i + j) / 2:=⟨_,rfl⟩
   obtain⟨z,hz⟩:=ee (l:=A) (i:=c) om
   have hx1:(P ++ (A ++ (y :: S)))[m]? =some y:=by
    rw [← b₀];exact yQ (by simp;omega)
   have hx2:(P ++ (A ++ (y :: S)))[a + c]? =some z:=by
    rw [a₁ om,show a + c - P.length=c by omega,a₇ (a₀.1 hz).1];exact hz
   have hless:=pP (G:=G) n _ hlen _ _ hx1 hx2
   have k2:=aX.mk (uX (a + i) (a + j))
   refine ad ?_
   refine yc (hless) [(0,0),(1,1)] ?_
   refine ad ?_
   refine ae rfl (fun hb=>?_) (fun hb=>?_)
   ·have hb:eC y.1 z.1=false:=by simpa using hb
    refine ad ?_
    exact⟨(c + 1,j),⟨om,h2,fun k w hw hk=>by
     have h5:=mK hb (ht z (mO hz))
     cases hq:eC y.1 w.1 with
     | false=>rfl
     | true=>
      exfalso
      have h6:=befE_t hq
      rcases nM hA hw hz om with rfl | h
      ·exact gY h5 h6
      ·exact gY (dF h h5) h6,h4⟩,by show j - (c + 1) < j - i;omega,(by(try dsimp only);exact vm [(2,_)] [] (h2:=by exact nF))⟩
   ·have hb:eC y.1 z.1=true:=by simpa using hb
    refine ad ?_
    exact⟨(i,c),⟨om,om,h3,fun k w hw hk=>by
     have h5:=befE_t hb
     have hmm:=ht w (mO hw)
     rcases nM hA hz hw om with rfl | h
     ·exact hb
     ·exact(uW hmm).2 (dF h5 h)⟩,by show c - i < j - i;omega,(by(try dsimp only);exact vm [(2,_)] [] (h2:=by exact nF))⟩
  ·have hij:i=j:=by have:=oF hd;omega
   subst hij
   have hfin:=GZ hA ht hn h3 h4
   rw [← hfin]
   refine ad ?_
   refine ar (Nat) (fun q=> [(15, .int .i64 ((a + q:Nat):Int)),(12, .int .i64 ((a + i:Nat):Int)),(4, .ptr 2 2 0 0 [])]) (fun q=>aV n (P ++ (A.take q ++ (y :: (A.drop q ++ S)))) ++ [(2,⟨229,2,false,0,[dX n]⟩)]) 3 (fun q=>i≤q∧q≤A.length) (fun q=>q) A.length ⟨h2,a₄ _⟩ ?_ ?_
   ·try dsimp only
    rw [c₂,List.drop_length,b₆]
    exact(vm [(2,_)] [] (h2:=by exact nF))
   rintro q ⟨hq,hqA⟩
   try dsimp only
   refine ad ?_
   refine ae rfl (fun hd=>?_) (fun hd=>?_)
   ·have hqi:i < q:=by have:=ot hd;omega
    obtain⟨r,rfl⟩: ∃r,q=r + 1:=⟨q - 1,om⟩
    obtain⟨z,hz⟩:=ee (l:=A) (i:=r) om
    obtain⟨hq2,hy2⟩:=a₀.1 hz
    have hsw:Df (P ++ (A.take (r + 1) ++ (y :: (A.drop (r + 1) ++ S)))) (a + (r + 1)) (a + r)=P ++ (A.take r ++ (y :: (A.drop r ++ S))):=by
     rw [Bv]
     have:=mL (X:=P ++ A.take r) (Y:= []) (Z:=A.drop (r + 1) ++ S) (a:=z) (b:=y) (i:=a + r) (j:=a + (r + 1)) (by simp;omega) (by simp;omega)
     rw [c₁ hq2,hy2,a₈ hq2,hy2]
     simpa using this
    have hlen2:(P ++ (A.take (r + 1) ++ (y :: (A.drop (r + 1) ++ S)))).length=n:=by simp;omega
    have hswap:=yO (G:=G) n _ hlen2 (a + (r + 1)) (a + r) om om
    rw [hsw] at hswap
    refine ad ?_
    refine dQ rfl (fun _ h=>h) rfl (hswap) [(0,0),(1,1)] [] ⟨rfl,trivial,rfl,lm,mm⟩ rfl rfl ?_
    refine ad ?_
    exact⟨r,⟨by show i≤r;omega,by show r≤A.length;omega⟩,by show r < r + 1;omega,(by(try dsimp only);exact vm [(2,_)] [] (h2:=by exact nF))⟩
   ·have hqi:q=i:=by have:=oF hd;omega
    subst hqi
    try dsimp only
    rw [show P ++ ((A.take q ++ y :: A.drop q) ++ S)=P ++ (A.take q ++ (y :: (A.drop q ++ S))) by simp]
    refine ad ?_
    exact en []
 ·exfalso
  have:=oF hd
  omega
end
section
variable {G:GS}
def ET (G:GS) (n a m b mid st:Nat) (T0 T3:List TE):Prop:= ∃T1 T2:List TE,
 (st < m→m < mid + m - st→aL Tryz.prog G 243 [dX n, .int .i64 st, .int .i64 m, .int .i64 ((mid + m - st:Nat):Int)] (aV n T0) 2 (.tup []) (aV n T1) 2)∧(¬ (st < m∧m < mid + m - st)→T0=T1)∧
 (a < st→st < mid→aL Tryz.prog G 216 [dX n, .int .i64 a, .int .i64 st, .int .i64 mid] (aV n T1) 2 (.tup []) (aV n T2) 2)∧(¬ (a < st∧st < mid)→T1=T2)∧
 (mid < mid + m - st→mid + m - st < b→aL Tryz.prog G 216 [dX n, .int .i64 mid, .int .i64 ((mid + m - st:Nat):Int), .int .i64 b] (aV n T2) 2 (.tup []) (aV n T3) 2)∧(¬ (mid < mid + m - st∧mid + m - st < b)→T2=T3)
theorem JX (n:Nat) (hN:n < 1152921504606846976) (P A B S:List TE) (a m b mid st:Nat) (hP:P.length=a) (hm:a + A.length=m) (hb:m + B.length=b) (hS:b + S.length=n) (hA:gH A) (hB:gH B) (ht: ∀x∈A,∀y∈B,x.2 < y.2) (hn:dL (A ++ B))
  (k1:a≤st) (k2:st≤m) (k3:st≤mid) (k4:mid≤st + B.length) (g1:0 < st - a→mid - st < B.length→gB A B (st - 1 - a) (mid - 1 - (st - 1))=false) (g2:st - a < A.length→0 < mid - st→gB A B (st - a) (mid - 1 - st)=true)
  (ih: ∀(P A B S:List TE) (a' m' b':Nat),b' - a' < b - a→P.length=a'→a' + A.length=m'→m' + B.length=b'→b' + S.length=n→0 < A.length→0 < B.length→gH A→gH B→(∀x∈A,∀y∈B,x.2 < y.2)→dL (A ++ B)→
   aL Tryz.prog G 216 [dX n, .int .i64 a', .int .i64 m', .int .i64 b'] (aV n (P ++ (A ++ (B ++ S)))) 2 (.tup []) (aV n (P ++ (eK (A ++ B) ++ S))) 2)
  (hmid:mid < b) (hmid2:a < mid) :
  ET G n a m b mid st (P ++ (A ++ (B ++ S))) (P ++ (eK (A ++ B) ++ S)):=by
 obtain⟨u,hu⟩: ∃u,u=st - a:=⟨_,rfl⟩
 obtain⟨v,hv⟩: ∃v,v=mid - st:=⟨_,rfl⟩
 have hs:=Ms hA hB ht hn (u:=u) (v:=v) om om (fun h1 h2=>by have:=g1 om om;rwa [show st - 1 - a=u - 1 by omega,show mid - 1 - (st - 1)=v by omega] at this) (fun h1 h2=>by have:=g2 om om;rwa [show st - a=u by omega,show mid - 1 - st=v - 1 by omega] at this)
 obtain⟨A1,A2,eA,l1⟩:=Mn A (k:=u) om
 obtain⟨B1,B2,eB,l2⟩:=Mn B (k:=v) om
 have tA:A.take u=A1:=by rw [eA,← l1];simp
 have dA:A.drop u=A2:=by rw [eA,← l1];simp
 have tB:B.take v=B1:=by rw [eB,← l2];simp
 have dB:B.drop v=B2:=by rw [eB,← l2];simp
 rw [tA,dA,tB,dB] at hs
 have la:A1.length + A2.length=A.length:=by rw [eA];simp
 have lb:B1.length + B2.length=B.length:=by rw [eB];simp
 rw [hs]
 have hA':=hA
 have hB':=hB
 have hn':=hn
 rw [eA] at hA'
 rw [eB] at hB'
 rw [eA,eB] at hn'
 obtain⟨sA1,sA2,_⟩:=gZ.1 hA'
 obtain⟨sB1,sB2,_⟩:=gZ.1 hB'
 have hp:=xc A1 A2 B1 B2
 have hn2:dL ((A1 ++ B1) ++ (A2 ++ B2)):=hn'.perm hp.symm
 obtain⟨n1,n2,_⟩:=a₆.1 hn2
 have t1: ∀x∈A1,∀y∈B1,x.2 < y.2:=fun x hx y hy=>ht x (by rw [eA];simp [hx]) y (by rw [eB];simp [hy])
 have t2: ∀x∈A2,∀y∈B2,x.2 < y.2:=fun x hx y hy=>ht x (by rw [eA];simp [hx]) y (by rw [eB];simp [hy])
 have p1:(eK (A1 ++ B1)).length=A1.length + B1.length:=by rw [(bt _).length_eq,a₉]
 clear tA dA tB dB hs g1 g2
 subst eA eB
 refine⟨P ++ ((A1 ++ B1) ++ ((A2 ++ B2) ++ S)),P ++ (eK (A1 ++ B1) ++ ((A2 ++ B2) ++ S)),fun h1 h2=>?_,fun h=>?_,fun h1 h2=>?_,fun h=>?_,fun h1 h2=>?_,fun h=>?_⟩
 ·have:=JV (G:=G) n om (P ++ A1) A2 B1 (B2 ++ S) st m (mid + m - st) (by simp;omega) om om (by simp at hS ⊢;omega) om om
  simpa using this
 ·have:A2= [] ∨B1= [] :=by
   rcases b₉ A2.length with h3 | h3
   ·exact .inl (a₂.1 h3)
   ·exact .inr (a₂.1 om)
  rcases this with rfl | rfl <;> simp
 ·have:=ih P A1 B1 ((A2 ++ B2) ++ S) a st mid om hP om om (by simp at *;omega) om om sA1 sB1 t1 n1
  simpa using this
 ·have:A1= [] ∨B1= [] :=by
   rcases b₉ A1.length with h3 | h3
   ·exact .inl (a₂.1 h3)
   ·exact .inr (a₂.1 om)
  rcases this with rfl | rfl
  ·simp only [b₆] at *;rw [yR sB1 n1]
  ·simp only [a₅] at *;rw [yR sA1 n1]
 ·have:=ih (P ++ eK (A1 ++ B1)) A2 B2 S mid (mid + m - st) b om (by simp [p1];omega) om (by simp at hb;omega) hS om (by simp at hb;omega) sA2 sB2 t2 n2
  simpa using this
 ·have:A2= [] ∨B2= [] :=by
   rcases b₉ A2.length with h3 | h3
   ·exact .inl (a₂.1 h3)
   ·exact .inr (a₂.1 (by simp at hb;omega))
  rcases this with rfl | rfl
  ·simp only [b₆] at *;rw [yR sB2 n2];simp
  ·simp only [a₅] at *;rw [yR sA2 n2];simp
theorem Na (n:Nat) (hN:n < 1152921504606846976): ∀(s:Nat) (P A B S:List TE) (a m b:Nat),b - a≤s→P.length=a→a + A.length=m→m + B.length=b→b + S.length=n→0 < A.length→0 < B.length→gH A→gH B→(∀x∈A,∀y∈B,x.2 < y.2)→dL (A ++ B)→
  aL Tryz.prog G 216 [dX n, .int .i64 a, .int .i64 m, .int .i64 b] (aV n (P ++ (A ++ (B ++ S)))) 2 (.tup []) (aV n (P ++ (eK (A ++ B) ++ S))) 2:=by
 intro s
 induction s with
 | zero=>intro P A B S a m b h1 h2 h3 h4 h5 h6 h7;omega
 | succ s ihs=>
  intro P A B S a m b hs hP hm hb hS hA0 hB0 hA hB ht hn
  have ih: ∀(P A B S:List TE) (a' m' b':Nat),b' - a' < b - a→P.length=a'→a' + A.length=m'→m' + B.length=b'→b' + S.length=n→0 < A.length→0 < B.length→gH A→gH B→(∀x∈A,∀y∈B,x.2 < y.2)→dL (A ++ B)→
    aL Tryz.prog G 216 [dX n, .int .i64 a', .int .i64 m', .int .i64 b'] (aV n (P ++ (A ++ (B ++ S)))) 2 (.tup []) (aV n (P ++ (eK (A ++ B) ++ S))) 2:=fun P A B S a' m' b' h=>ihs P A B S a' m' b' om
  by_cases h1:A.length=1
  ·match A,h1 with
   | [x],_=>
    have:=Oh (G:=G) n hN P B S x a b hP (by simp at hm;omega) hS hB (fun y hy=>ht x sm y hy) (a₆.1 hn).2.1
    rw [show a + 1=m by simpa using hm] at this
    simpa using this
  by_cases h2:B.length=1
  ·match B,h2 with
   | [y],_=>
    have:=Oi (G:=G) n hN P A S y a m hP hm (by simp at hb;omega) h1 hA (fun z hz=>ht z hz y sm) (a₆.1 hn).1
    rw [show m + 1=b by simpa using hb] at this
    simpa using this
  obtain⟨mid,hmid⟩: ∃mid,mid=(a + b) / 2:=⟨_,rfl⟩
  have hrest: ∀st,a≤st→st≤m→st≤mid→mid≤st + B.length→(0 < st - a→mid - st < B.length→gB A B (st - 1 - a) (mid - 1 - (st - 1))=false)→(st - a < A.length→0 < mid - st→gB A B (st - a) (mid - 1 - st)=true)→ET G n a m b mid st (P ++ (A ++ (B ++ S))) (P ++ (eK (A ++ B) ++ S)):=
   fun st k1 k2 k3 k4 g1 g2=>JX n hN P A B S a m b mid st hP hm hb hS hA hB ht hn k1 k2 k3 k4 g1 g2 ih om om
  have hlen:(P ++ (A ++ (B ++ S))).length=n:=by simp;omega
  have hTx: ∀{k:Nat} {x:TE},A[k]? =some x→(P ++ (A ++ (B ++ S)))[a + k]? =some x:=fun {k x} h=>by
   rw [a₁ om,show a + k - P.length=k by omega,a₇ (a₀.1 h).1];exact h
  have hTy: ∀{k:Nat} {y:TE},B[k]? =some y→(P ++ (A ++ (B ++ S)))[m + k]? =some y:=fun {k y} h=>by
   rw [a₁ om,a₁ om,show m + k - P.length - A.length=k by omega,a₇ (a₀.1 h).1];exact h
  clear ih ihs
  generalize hT0:P ++ (A ++ (B ++ S))=T0 at *
  generalize hT3:P ++ (eK (A ++ B) ++ S)=T3 at *
  clear hT0 hT3
  refine bU seat Tryz.func216 177 ?_
  refine ad ?_
  refine ae rfl (fun hd=>?_) (fun hd=>?_)
  ·exfalso
   have:=ot hd
   omega
  refine ad ?_
  refine ae rfl (fun hd=>?_) (fun hd=>?_)
  ·exfalso
   have:=ot hd
   omega
  clear hd
  have k2:=aX.mk (uX a b)
  refine ad ?_
  refine ae rfl (fun hd=>?_) (fun hd=>?_)
  ·have hgt:=ot hd
   have hgt:mid < m:=om
   obtain⟨lo,hlo⟩: ∃lo,lo=mid + m - b:=⟨_,rfl⟩
   obtain⟨hi,hhi⟩: ∃hi,hi=mid:=⟨_,rfl⟩
   refine ad ?_
   refine ar (Nat×Nat) (fun q=> [(19, .int .i64 q.2),(18, .int .i64 q.1),(20, .int .i64 ((mid:Int) + m - 1)),(17, .int .i64 ((mid:Int) + m)),(16, .int .i64 mid),(4, .ptr 2 2 0 0 []),(3, .int .i64 b),(2, .int .i64 m),(1, .int .i64 a)]) (fun q=>aV n T0 ++ [(2,⟨229,2,false,0,[dX n]⟩)]) 3
    (fun q=>lo≤q.1∧q.1≤q.2∧q.2≤hi∧(∀c,lo≤c→c < q.1→gB A B (c - a) (mid - 1 - c)=false)∧(∀c,q.2≤c→c < hi→gB A B (c - a) (mid - 1 - c)=true)) (fun q=>q.2 - q.1) (lo,hi) ⟨a₄ _,by omega,a₄ _,fun c h1 h2=>absurd h2 (by show ¬ c < lo;omega),fun c h1 h2=>absurd h2 (by have h1:hi≤c:=h1;omega)⟩ (by(try dsimp only);exact vm [(2,_)] [] (h2:=by exact nF)) ?_
   rintro⟨st,r⟩ ⟨i1,i2,i3,i4,i5⟩
   try dsimp only
   dsimp only at i1 i2 i3 i4 i5
   refine ad ?_
   refine ae rfl (fun hd=>?_) (fun hd=>?_)
   ·have hlt:st < r:=by have:=ot hd;omega
    obtain⟨c,hc⟩: ∃c,c=(st + r) / 2:=⟨_,rfl⟩
    obtain⟨x,hx⟩:=ee (l:=A) (i:=c - a) om
    obtain⟨y,hy⟩:=ee (l:=B) (i:=mid - 1 - c) om
    have hless:=pP (G:=G) n T0 hlen (m + (mid - 1 - c)) c (hTy hy) (by have:=hTx hx;rwa [show a + (c - a)=c by omega] at this)
    have hg:=xb hx hy
    have k2:=aX.mk (uX st r)
    refine ad ?_
    refine yc (hless) [(0,0),(1,1)] ?_
    refine ad ?_
    refine ae rfl (fun hb=>?_) (fun hb=>?_)
    ·have hb:eC y.1 x.1=false:=by simpa using hb
     refine ad ?_
     refine⟨(c + 1,r),⟨by show lo≤c + 1;omega,by show c + 1≤r;omega,i3,fun k h1 h2=>?_,i5⟩,by show r - (c + 1) < r - st;omega,(by(try dsimp only);exact vm [(2,_)] [] (h2:=by exact nF))⟩
     have h2:k < c + 1:=h2
     cases hq:gB A B (k - a) (mid - 1 - k) with
     | false=>rfl
     | true=>
      have:=su hA hB ht (u':=c - a) (v':=mid - 1 - c) om om om om hq
      rw [hg,hb] at this
      cases this
    ·have hb:eC y.1 x.1=true:=by simpa using hb
     refine ad ?_
     refine⟨(st,c),⟨i1,by show st≤c;omega,by show c≤hi;omega,i4,fun k h1 h2=>?_⟩,by show c - st < r - st;omega,(by(try dsimp only);exact vm [(2,_)] [] (h2:=by exact nF))⟩
     have h1:c≤k:=h1
     exact su hA hB ht (u:=c - a) (v:=mid - 1 - c) om om om om (by rw [hg];exact hb)
   ·have hlt:st=r:=by have:=oF hd;omega
    subst hlt
    obtain⟨T1,T2,R1,N1,R2,N2,R3,N3⟩:=hrest st om om om om (fun h1 h2=>i4 (st - 1) om om) (fun h1 h2=>i5 st (a₄ _) om)
    refine ad ?_
    refine ah rfl rfl (fun g1=>?_) rfl (fun g1=>?_)
    ·have g1:=ot g1
     refine ad ?_
     refine ae rfl (fun d1=>?_) (fun d1=>?_)
     ·have d1:=ot d1
      refine ad ?_
      refine yc (R1 om om) [(0,0),(1,1)] ?_
      try (exfalso;omega)
      all_goals
       refine ad ?_
       refine ah rfl rfl (fun g2=>?_) rfl (fun g2=>?_)
       ·have g2:=ot g2
        refine ad ?_
        refine ae rfl (fun d2=>?_) (fun d2=>?_)
        ·have d2:=ot d2
         refine ad ?_
         refine yc (R2 (by omega) (by omega)) [(0,0),(1,1)] ?_
         try (exfalso;omega)
         all_goals
          refine ad ?_
          refine ah rfl rfl (fun g3=>?_) rfl (fun g3=>?_)
          ·have g3:=ot g3
           try (exfalso;omega)
           all_goals
            refine ad ?_
            refine ae rfl (fun d3=>?_) (fun d3=>?_)
            ·have d3:=ot d3
             refine ad ?_
             refine yc (R3 (by omega) (by omega)) [(0,0),(1,1)] ?_
             refine ad ?_
             exact en []
            ·have d3:=oF d3
             rw [N3 (by omega)]
             refine ad ?_
             exact en []
          ·have g3:=oF g3
           rw [N3 (by omega)]
           refine ad ?_
           exact en []
        ·have d2:=oF d2
         rw [N2 (by omega)]
         try (exfalso;omega)
         all_goals
          refine ad ?_
          refine ah rfl rfl (fun g3=>?_) rfl (fun g3=>?_)
          ·have g3:=ot g3
           try (exfalso;omega)
           all_goals
            refine ad ?_
            refine ae rfl (fun d3=>?_) (fun d3=>?_)
            ·have d3:=ot d3
             refine ad ?_
             refine yc (R3 (by omega) (by omega)) [(0,0),(1,1)] ?_
             refine ad ?_
             exact en []
            ·have d3:=oF d3
             rw [N3 (by omega)]
             refine ad ?_
             exact en []
          ·have g3:=oF g3
           rw [N3 (by omega)]
           refine ad ?_
           exact en []
       ·have g2:=oF g2
        rw [N2 (by omega)]
        try (exfalso;omega)
        all_goals
         refine ad ?_
         refine ah rfl rfl (fun g3=>?_) rfl (fun g3=>?_)
         ·have g3:=ot g3
          try (exfalso;omega)
          all_goals
           refine ad ?_
           refine ae rfl (fun d3=>?_) (fun d3=>?_)
           ·have d3:=ot d3
            refine ad ?_
            refine yc (R3 (by omega) (by omega)) [(0,0),(1,1)] ?_
            refine ad ?_
            exact en []
           ·have d3:=oF d3
            rw [N3 (by omega)]
            refine ad ?_
            exact en []
         ·have g3:=oF g3
          rw [N3 (by omega)]
          refine ad ?_
          exact en []
     ·have d1:=oF d1
      rw [N1 om]
      try (exfalso;omega)
      all_goals
       refine ad ?_
       refine ah rfl rfl (fun g2=>?_) rfl (fun g2=>?_)
       ·have g2:=ot g2
        refine ad ?_
        refine ae rfl (fun d2=>?_) (fun d2=>?_)
        ·have d2:=ot d2
         refine ad ?_
         refine yc (R2 (by omega) (by omega)) [(0,0),(1,1)] ?_
         try (exfalso;omega)
         all_goals
          refine ad ?_
          refine ah rfl rfl (fun g3=>?_) rfl (fun g3=>?_)
          ·have g3:=ot g3
           try (exfalso;omega)
           all_goals
            refine ad ?_
            refine ae rfl (fun d3=>?_) (fun d3=>?_)
            ·have d3:=ot d3
             refine ad ?_
             refine yc (R3 (by omega) (by omega)) [(0,0),(1,1)] ?_
             refine ad ?_
             exact en []
            ·have d3:=oF d3
             rw [N3 (by omega)]
             refine ad ?_
             exact en []
          ·have g3:=oF g3
           rw [N3 (by omega)]
           refine ad ?_
           exact en []
        ·have d2:=oF d2
         rw [N2 (by omega)]
         try (exfalso;omega)
         all_goals
          refine ad ?_
          refine ah rfl rfl (fun g3=>?_) rfl (fun g3=>?_)
          ·have g3:=ot g3
           try (exfalso;omega)
           all_goals
            refine ad ?_
            refine ae rfl (fun d3=>?_) (fun d3=>?_)
            ·have d3:=ot d3
             refine ad ?_
             refine yc (R3 (by omega) (by omega)) [(0,0),(1,1)] ?_
             refine ad ?_
             exact en []
            ·have d3:=oF d3
             rw [N3 (by omega)]
             refine ad ?_
             exact en []
          ·have g3:=oF g3
           rw [N3 (by omega)]
           refine ad ?_
           exact en []
       ·have g2:=oF g2
        rw [N2 (by omega)]
        try (exfalso;omega)
        all_goals
         refine ad ?_
         refine ah rfl rfl (fun g3=>?_) rfl (fun g3=>?_)
         ·have g3:=ot g3
          try (exfalso;omega)
          all_goals
           refine ad ?_
           refine ae rfl (fun d3=>?_) (fun d3=>?_)
           ·have d3:=ot d3
            refine ad ?_
            refine yc (R3 (by omega) (by omega)) [(0,0),(1,1)] ?_
            refine ad ?_
            exact en []
           ·have d3:=oF d3
            rw [N3 (by omega)]
            refine ad ?_
            exact en []
         ·have g3:=oF g3
          rw [N3 (by omega)]
          refine ad ?_
          exact en []
    ·have g1:=oF g1
     rw [N1 om]
     try (exfalso;omega)
     all_goals
      refine ad ?_
      refine ah rfl rfl (fun g2=>?_) rfl (fun g2=>?_)
      ·have g2:=ot g2
       refine ad ?_
       refine ae rfl (fun d2=>?_) (fun d2=>?_)
       ·have d2:=ot d2
        refine ad ?_
        refine yc (R2 (by omega) (by omega)) [(0,0),(1,1)] ?_
        try (exfalso;omega)
        all_goals
         refine ad ?_
         refine ah rfl rfl (fun g3=>?_) rfl (fun g3=>?_)
         ·have g3:=ot g3
          try (exfalso;omega)
          all_goals
           refine ad ?_
           refine ae rfl (fun d3=>?_) (fun d3=>?_)
           ·have d3:=ot d3
            refine ad ?_
            refine yc (R3 (by omega) (by omega)) [(0,0),(1,1)] ?_
            refine ad ?_
            exact en []
           ·have d3:=oF d3
            rw [N3 (by omega)]
            refine ad ?_
            exact en []
         ·have g3:=oF g3
          rw [N3 (by omega)]
          refine ad ?_
          exact en []
       ·have d2:=oF d2
        rw [N2 (by omega)]
        try (exfalso;omega)
        all_goals
         refine ad ?_
         refine ah rfl rfl (fun g3=>?_) rfl (fun g3=>?_)
         ·have g3:=ot g3
          try (exfalso;omega)
          all_goals
           refine ad ?_
           refine ae rfl (fun d3=>?_) (fun d3=>?_)
           ·have d3:=ot d3
            refine ad ?_
            refine yc (R3 (by omega) (by omega)) [(0,0),(1,1)] ?_
            refine ad ?_
            exact en []
           ·have d3:=oF d3
            rw [N3 (by omega)]
            refine ad ?_
            exact en []
         ·have g3:=oF g3
          rw [N3 (by omega)]
          refine ad ?_
          exact en []
      ·have g2:=oF g2
       rw [N2 (by omega)]
       try (exfalso;omega)
       all_goals
        refine ad ?_
        refine ah rfl rfl (fun g3=>?_) rfl (fun g3=>?_)
        ·have g3:=ot g3
         try (exfalso;omega)
         all_goals
          refine ad ?_
          refine ae rfl (fun d3=>?_) (fun d3=>?_)
          ·have d3:=ot d3
           refine ad ?_
           refine yc (R3 (by omega) (by omega)) [(0,0),(1,1)] ?_
           refine ad ?_
           exact en []
          ·have d3:=oF d3
           rw [N3 (by omega)]
           refine ad ?_
           exact en []
        ·have g3:=oF g3
         rw [N3 (by omega)]
         refine ad ?_
         exact en []
  ·have hgt:=oF hd
   have hgt:m≤mid:=om
   obtain⟨lo,hlo⟩: ∃lo,lo=a:=⟨_,rfl⟩
   obtain⟨hi,hhi⟩: ∃hi,hi=m:=⟨_,rfl⟩
   refine ad ?_
   refine ar (Nat×Nat) (fun q=> [(19, .int .i64 q.2),(18, .int .i64 q.1),(20, .int .i64 ((mid:Int) + m - 1)),(17, .int .i64 ((mid:Int) + m)),(16, .int .i64 mid),(4, .ptr 2 2 0 0 []),(3, .int .i64 b),(2, .int .i64 m),(1, .int .i64 a)]) (fun q=>aV n T0 ++ [(2,⟨229,2,false,0,[dX n]⟩)]) 3
    (fun q=>lo≤q.1∧q.1≤q.2∧q.2≤hi∧(∀c,lo≤c→c < q.1→gB A B (c - a) (mid - 1 - c)=false)∧(∀c,q.2≤c→c < hi→gB A B (c - a) (mid - 1 - c)=true)) (fun q=>q.2 - q.1) (lo,hi) ⟨a₄ _,by omega,a₄ _,fun c h1 h2=>absurd h2 (by show ¬ c < lo;omega),fun c h1 h2=>absurd h2 (by have h1:hi≤c:=h1;omega)⟩ (by(try dsimp only);exact vm [(2,_)] [] (h2:=by exact nF)) ?_
   rintro⟨st,r⟩ ⟨i1,i2,i3,i4,i5⟩
   try dsimp only
   dsimp only at i1 i2 i3 i4 i5
   refine ad ?_
   refine ae rfl (fun hd=>?_) (fun hd=>?_)
   ·have hlt:st < r:=by have:=ot hd;omega
    obtain⟨c,hc⟩: ∃c,c=(st + r) / 2:=⟨_,rfl⟩
    obtain⟨x,hx⟩:=ee (l:=A) (i:=c - a) om
    obtain⟨y,hy⟩:=ee (l:=B) (i:=mid - 1 - c) om
    have hless:=pP (G:=G) n T0 hlen (m + (mid - 1 - c)) c (hTy hy) (by have:=hTx hx;rwa [show a + (c - a)=c by omega] at this)
    have hg:=xb hx hy
    have k2:=aX.mk (uX st r)
    refine ad ?_
    refine yc (hless) [(0,0),(1,1)] ?_
    refine ad ?_
    refine ae rfl (fun hb=>?_) (fun hb=>?_)
    ·have hb:eC y.1 x.1=false:=by simpa using hb
     refine ad ?_
     refine⟨(c + 1,r),⟨by show lo≤c + 1;omega,by show c + 1≤r;omega,i3,fun k h1 h2=>?_,i5⟩,by show r - (c + 1) < r - st;omega,(by(try dsimp only);exact vm [(2,_)] [] (h2:=by exact nF))⟩
     have h2:k < c + 1:=h2
     cases hq:gB A B (k - a) (mid - 1 - k) with
     | false=>rfl
     | true=>
      have:=su hA hB ht (u':=c - a) (v':=mid - 1 - c) om om om om hq
      rw [hg,hb] at this
      cases this
    ·have hb:eC y.1 x.1=true:=by simpa using hb
     refine ad ?_
     refine⟨(st,c),⟨i1,by show st≤c;omega,by show c≤hi;omega,i4,fun k h1 h2=>?_⟩,by show c - st < r - st;omega,(by(try dsimp only);exact vm [(2,_)] [] (h2:=by exact nF))⟩
     have h1:c≤k:=h1
     exact su hA hB ht (u:=c - a) (v:=mid - 1 - c) om om om om (by rw [hg];exact hb)
   ·have hlt:st=r:=by have:=oF hd;omega
    subst hlt
    obtain⟨T1,T2,R1,N1,R2,N2,R3,N3⟩:=hrest st om om om om (fun h1 h2=>i4 (st - 1) om om) (fun h1 h2=>i5 st (a₄ _) om)
    refine ad ?_
    refine ah rfl rfl (fun g1=>?_) rfl (fun g1=>?_)
    ·have g1:=ot g1
     refine ad ?_
     refine ae rfl (fun d1=>?_) (fun d1=>?_)
     ·have d1:=ot d1
      refine ad ?_
      refine yc (R1 om om) [(0,0),(1,1)] ?_
      try (exfalso;omega)
      all_goals
       refine ad ?_
       refine ah rfl rfl (fun g2=>?_) rfl (fun g2=>?_)
       ·have g2:=ot g2
        refine ad ?_
        refine ae rfl (fun d2=>?_) (fun d2=>?_)
        ·have d2:=ot d2
         refine ad ?_
         refine yc (R2 (by omega) (by omega)) [(0,0),(1,1)] ?_
         try (exfalso;omega)
         all_goals
          refine ad ?_
          refine ah rfl rfl (fun g3=>?_) rfl (fun g3=>?_)
          ·have g3:=ot g3
           try (exfalso;omega)
           all_goals
            refine ad ?_
            refine ae rfl (fun d3=>?_) (fun d3=>?_)
            ·have d3:=ot d3
             refine ad ?_
             refine yc (R3 (by omega) (by omega)) [(0,0),(1,1)] ?_
             refine ad ?_
             exact en []
            ·have d3:=oF d3
             rw [N3 (by omega)]
             refine ad ?_
             exact en []
          ·have g3:=oF g3
           rw [N3 (by omega)]
           refine ad ?_
           exact en []
        ·have d2:=oF d2
         rw [N2 (by omega)]
         try (exfalso;omega)
         all_goals
          refine ad ?_
          refine ah rfl rfl (fun g3=>?_) rfl (fun g3=>?_)
          ·have g3:=ot g3
           try (exfalso;omega)
           all_goals
            refine ad ?_
            refine ae rfl (fun d3=>?_) (fun d3=>?_)
            ·have d3:=ot d3
             refine ad ?_
             refine yc (R3 (by omega) (by omega)) [(0,0),(1,1)] ?_
             refine ad ?_
             exact en []
            ·have d3:=oF d3
             rw [N3 (by omega)]
             refine ad ?_
             exact en []
          ·have g3:=oF g3
           rw [N3 (by omega)]
           refine ad ?_
           exact en []
       ·have g2:=oF g2
        rw [N2 (by omega)]
        try (exfalso;omega)
        all_goals
         refine ad ?_
         refine ah rfl rfl (fun g3=>?_) rfl (fun g3=>?_)
         ·have g3:=ot g3
          try (exfalso;omega)
          all_goals
           refine ad ?_
           refine ae rfl (fun d3=>?_) (fun d3=>?_)
           ·have d3:=ot d3
            refine ad ?_
            refine yc (R3 (by omega) (by omega)) [(0,0),(1,1)] ?_
            refine ad ?_
            exact en []
           ·have d3:=oF d3
            rw [N3 (by omega)]
            refine ad ?_
            exact en []
         ·have g3:=oF g3
          rw [N3 (by omega)]
          refine ad ?_
          exact en []
     ·have d1:=oF d1
      rw [N1 om]
      try (exfalso;omega)
      all_goals
       refine ad ?_
       refine ah rfl rfl (fun g2=>?_) rfl (fun g2=>?_)
       ·have g2:=ot g2
        refine ad ?_
        refine ae rfl (fun d2=>?_) (fun d2=>?_)
        ·have d2:=ot d2
         refine ad ?_
         refine yc (R2 (by omega) (by omega)) [(0,0),(1,1)] ?_
         try (exfalso;omega)
         all_goals
          refine ad ?_
          refine ah rfl rfl (fun g3=>?_) rfl (fun g3=>?_)
          ·have g3:=ot g3
           try (exfalso;omega)
           all_goals
            refine ad ?_
            refine ae rfl (fun d3=>?_) (fun d3=>?_)
            ·have d3:=ot d3
             refine ad ?_
             refine yc (R3 (by omega) (by omega)) [(0,0),(1,1)] ?_
             refine ad ?_
             exact en []
            ·have d3:=oF d3
             rw [N3 (by omega)]
             refine ad ?_
             exact en []
          ·have g3:=oF g3
           rw [N3 (by omega)]
           refine ad ?_
           exact en []
        ·have d2:=oF d2
         rw [N2 (by omega)]
         try (exfalso;omega)
         all_goals
          refine ad ?_
          refine ah rfl rfl (fun g3=>?_) rfl (fun g3=>?_)
          ·have g3:=ot g3
           try (exfalso;omega)
           all_goals
            refine ad ?_
            refine ae rfl (fun d3=>?_) (fun d3=>?_)
            ·have d3:=ot d3
             refine ad ?_
             refine yc (R3 (by omega) (by omega)) [(0,0),(1,1)] ?_
             refine ad ?_
             exact en []
            ·have d3:=oF d3
             rw [N3 (by omega)]
             refine ad ?_
             exact en []
          ·have g3:=oF g3
           rw [N3 (by omega)]
           refine ad ?_
           exact en []
       ·have g2:=oF g2
        rw [N2 (by omega)]
        try (exfalso;omega)
        all_goals
         refine ad ?_
         refine ah rfl rfl (fun g3=>?_) rfl (fun g3=>?_)
         ·have g3:=ot g3
          try (exfalso;omega)
          all_goals
           refine ad ?_
           refine ae rfl (fun d3=>?_) (fun d3=>?_)
           ·have d3:=ot d3
            refine ad ?_
            refine yc (R3 (by omega) (by omega)) [(0,0),(1,1)] ?_
            refine ad ?_
            exact en []
           ·have d3:=oF d3
            rw [N3 (by omega)]
            refine ad ?_
            exact en []
         ·have g3:=oF g3
          rw [N3 (by omega)]
          refine ad ?_
          exact en []
    ·have g1:=oF g1
     rw [N1 om]
     try (exfalso;omega)
     all_goals
      refine ad ?_
      refine ah rfl rfl (fun g2=>?_) rfl (fun g2=>?_)
      ·have g2:=ot g2
       refine ad ?_
       refine ae rfl (fun d2=>?_) (fun d2=>?_)
       ·have d2:=ot d2
        refine ad ?_
        refine yc (R2 (by omega) (by omega)) [(0,0),(1,1)] ?_
        try (exfalso;omega)
        all_goals
         refine ad ?_
         refine ah rfl rfl (fun g3=>?_) rfl (fun g3=>?_)
         ·have g3:=ot g3
          try (exfalso;omega)
          all_goals
           refine ad ?_
           refine ae rfl (fun d3=>?_) (fun d3=>?_)
           ·have d3:=ot d3
            refine ad ?_
            refine yc (R3 (by omega) (by omega)) [(0,0),(1,1)] ?_
            refine ad ?_
            exact en []
           ·have d3:=oF d3
            rw [N3 (by omega)]
            refine ad ?_
            exact en []
         ·have g3:=oF g3
          rw [N3 (by omega)]
          refine ad ?_
          exact en []
       ·have d2:=oF d2
        rw [N2 (by omega)]
        try (exfalso;omega)
        all_goals
         refine ad ?_
         refine ah rfl rfl (fun g3=>?_) rfl (fun g3=>?_)
         ·have g3:=ot g3
          try (exfalso;omega)
          all_goals
           refine ad ?_
           refine ae rfl (fun d3=>?_) (fun d3=>?_)
           ·have d3:=ot d3
            refine ad ?_
            refine yc (R3 (by omega) (by omega)) [(0,0),(1,1)] ?_
            refine ad ?_
            exact en []
           ·have d3:=oF d3
            rw [N3 (by omega)]
            refine ad ?_
            exact en []
         ·have g3:=oF g3
          rw [N3 (by omega)]
          refine ad ?_
          exact en []
      ·have g2:=oF g2
       rw [N2 (by omega)]
       try (exfalso;omega)
       all_goals
        refine ad ?_
        refine ah rfl rfl (fun g3=>?_) rfl (fun g3=>?_)
        ·have g3:=ot g3
         try (exfalso;omega)
         all_goals
          refine ad ?_
          refine ae rfl (fun d3=>?_) (fun d3=>?_)
          ·have d3:=ot d3
           refine ad ?_
           refine yc (R3 (by omega) (by omega)) [(0,0),(1,1)] ?_
           refine ad ?_
           exact en []
          ·have d3:=oF d3
           rw [N3 (by omega)]
           refine ad ?_
           exact en []
        ·have g3:=oF g3
         rw [N3 (by omega)]
         refine ad ?_
         exact en []
end
section
open Go.RowKit Go.Lib
variable {G:GS} {w:World} {P:bE} {adr:er}
def cs (B:Nat) (l:List TE):List TE:=if 0 < B∧B < l.length then eK (l.take B) ++ cs B (l.drop B) else eK l
termination_by l.length
decreasing_by simp;omega
theorem cs_short {B:Nat} {l:List TE} (h:l.length≤B):cs B l=eK l:=by rw [cs,if_neg om]
theorem cs_step {B:Nat} {l:List TE} (hB:0 < B) (h:B≤l.length):cs B l=eK (l.take B) ++ cs B (l.drop B):=by
 by_cases h1:B < l.length
 ·rw [cs,if_pos ⟨hB,h1⟩]
 ·have h2:l.length=B:=om;rw [cs_short om,cs_short (by simp;omega),List.take_of_length_le om,List.drop_eq_nil_of_le om];simp [eK]
theorem cs_len (B:Nat) (l:List TE):(cs B l).length=l.length:=by
 induction l using cs.induct B with
 | case1 l h ih=>rw [cs,if_pos h,a₉,ih,(bt _).length_eq];simp;omega
 | case2 l h=>rw [cs,if_neg h,(bt _).length_eq]
structure QI (A B l:List TE):Prop where
 a:gH A
 b:gH B
 t: ∀x∈A,∀y∈B,x.2 < y.2
 n:dL (A ++ B)
 s:eK (A ++ B)=eK l
theorem JY {U V l:List TE} (h:U ++ V=l) (hl:lD l):QI (eK U) (eK V) l:=by
 subst h;obtain⟨h1,h2,h3⟩:=a₆.1 hl;have hp:(eK U ++ eK V).Perm (U ++ V):=(bt U).append (bt V);have hn:dL (eK U ++ eK V):=(kD hl).perm hp.symm;exact⟨jJ U (kD h1),jJ V (kD h2),fun x hx y hy=>h3 x ((bt U).mem_iff.1 hx) y ((bt V).mem_iff.1 hy),hn,w9 hp (kD hl)⟩
theorem JZ (n:Nat) (hN:n < 288230376151711744) (t:List TE) (hn:t.length=n) (ht:lD t):aL Tryz.prog G 169 [dX n, .int .i64 n] (aV n t) 2 (.tup []) (aV n (eK t)) 2:=by
 obtain⟨cs,cs_step,cs_short,cs_len⟩: ∃cs:Nat→List TE→List TE,(∀{B:Nat} {l:List TE},0 < B→B≤l.length→cs B l=eK (l.take B) ++ cs B (l.drop B))∧(∀{B:Nat} {l:List TE},l.length≤B→cs B l=eK l)∧∀(B:Nat) (l:List TE),(cs B l).length=l.length:=⟨cs,cs_step,cs_short,cs_len⟩
 refine bU seat Tryz.func169 57 ?_;refine ad ?_;refine ar (Nat×List TE) (fun x=> [(6, .int .i64 ((x.1 + 20:Nat):Int)),(5, .int .i64 x.1),(4, .int .i64 20),(2, .ptr 2 2 0 0 []),(1, .int .i64 n)]) (fun x=>aV n (x.2 ++ t.drop x.1) ++ [(2,⟨229,2,false,0,[dX n]⟩)]) 3 (fun x=>x.1≤n∧x.2.length=x.1∧cs 20 t=x.2 ++ cs 20 (t.drop x.1)) (fun x=>n - x.1) (0,[]) ⟨b₄ _,rfl,rfl⟩ (by(try dsimp only);exact vm [(2,_)] [] (h2:=by exact nF)) ?_;rintro⟨a,D⟩ ⟨h1,h2,h3⟩;try dsimp only
 dsimp only at h1 h2 h3;try dsimp only
 refine ad ?_;refine ae rfl (fun hd=>?_) (fun hd=>?_)
 ·have hle:a + 20≤n:=by have:=ot hd;omega
  have hst:=cs_step (B:=20) (l:=t.drop a) om (by simp;omega);have hcut:t.drop a=(t.drop a).take 20 ++ t.drop (a + 20):=by rw [← b₁,a₃]
  rw [b₁] at hst;have hA:lD ((t.drop a).take 20):=ht.sublist ((c₄ _ _).trans (c₀ _ _));have hl:((t.drop a).take 20).length=20:=by simp;omega
  rw [hcut];generalize hseg:(t.drop a).take 20=A at *;refine ad ?_;refine yc (rP (G:=G) n om D A (t.drop (a + 20)) a (a + 20) h2 om (by simp;omega) hA) [(0,0),(1,1)] ?_;refine ad ?_;refine⟨(a + 20,D ++ eK A),⟨hle,by show(D ++ eK A).length=a + 20;rw [a₉,(bt A).length_eq];omega,by show cs 20 t=(D ++ eK A) ++ cs 20 (t.drop (a + 20));rw [h3,hst,b₀]⟩,by show n - (a + 20) < n - a;omega,?_⟩;try dsimp only
  rw [b₀];exact(vm [(2,_)] [] (h2:=by exact nF))
 ·have hle:n < a + 20:=by have:=oF hd;omega
  have hst:=cs_short (B:=20) (l:=t.drop a) (by simp;omega);have hA:lD (t.drop a):=ht.sublist (c₀ _ _);have hlA:a + (t.drop a).length=n:=by simp;omega
  have hins:=rP (G:=G) n om D (t.drop a) [] a n h2 hlA sm hA;rw [a₅,a₅,← hst,← h3] at hins;refine ad ?_;refine yc (hins) [(0,0),(1,1)] ?_;clear hins hst hA hlA hle hd h1 h2 h3;refine ad ?_;refine ar (Nat) (fun B=> [(4, .int .i64 B),(2, .ptr 2 2 0 0 []),(1, .int .i64 n)]) (fun B=>aV n (cs B t) ++ [(2,⟨229,2,false,0,[dX n]⟩)]) 3 (fun B=>0 < B∧(B=20∨B < 2 * n)) (fun B=>n - B) 20 ⟨by omega, .inl rfl⟩ (by(try dsimp only);exact vm [(2,_)] [] (h2:=by exact nF)) ?_;rintro B ⟨hB0,hB2⟩;try dsimp only
  refine ad ?_;refine ae rfl (fun hd=>?_) (fun hd=>?_)
  ·have hBn:B < n:=by have:=ot hd;omega
   refine ad ?_;refine ar (Nat×List TE) (fun x=> [(6, .int .i64 ((x.1 + 2 * B:Nat):Int)),(5, .int .i64 x.1),(4, .int .i64 B),(2, .ptr 2 2 0 0 []),(1, .int .i64 n)]) (fun x=>aV n (x.2 ++ cs B (t.drop x.1)) ++ [(2,⟨229,2,false,0,[dX n]⟩)]) 3 (fun x=>x.1≤n∧x.2.length=x.1∧cs (2 * B) t=x.2 ++ cs (2 * B) (t.drop x.1)) (fun x=>n - x.1) (0,[]) ⟨b₄ _,rfl,rfl⟩ (by(try dsimp only);exact vm [(2,_)] [] (h2:=by exact nF)) ?_;rintro⟨a,D⟩ ⟨h1,h2,h3⟩;try dsimp only
   dsimp only at h1 h2 h3;have hl:lD (t.drop a):=ht.sublist (c₀ _ _);have hll:(t.drop a).length=n - a:=by simp [hn]
   try dsimp only
   refine ad ?_;refine ae rfl (fun hd=>?_) (fun hd=>?_)
   ·have hle:a + 2 * B≤n:=by have:=ot hd;omega
    have e1:=cs_step (B:=B) (l:=t.drop a) hB0 om;have e2:=cs_step (B:=B) (l:=(t.drop a).drop B) hB0 (by simp;omega);have e3:=cs_step (B:=2 * B) (l:=t.drop a) om om;have hU:(t.drop a).take B ++ ((t.drop a).drop B).take B=(t.drop a).take (2 * B):=by
     rw [show 2 * B=B + B by omega,List.take_add]
    have h2':=JY hU (hl.sublist (c₄ _ _));have l1:(eK ((t.drop a).take B)).length=B:=by rw [(bt _).length_eq];simp;omega
    have l2:(eK (((t.drop a).drop B).take B)).length=B:=by rw [(bt _).length_eq];simp;omega
    rw [b₁,b₁,show a + B + B=a + 2 * B by omega] at e2;rw [b₁] at h2' l2 e1;rw [b₁] at e3;rw [e1,e2];rw [e3] at h3;rw [← h2'.s] at h3;have l3:(cs B (t.drop (a + 2 * B))).length=n - (a + 2 * B):=by rw [cs_len];simp [hn]
    clear e1 e2 e3 hU;generalize eK ((t.drop a).take B)=U at *;generalize eK ((t.drop (a + B)).take B)=V at *;have lUV:(eK (U ++ V)).length=2 * B:=by rw [(bt _).length_eq,a₉];omega
    refine ad ?_;refine yc (Na (G:=G) n om (2 * B) D U V (cs B (t.drop (a + 2 * B))) a (a + B) (a + 2 * B) om h2 om om om om om h2'.a h2'.b h2'.t h2'.n) [(0,0),(1,1)] ?_;refine ad ?_;refine⟨(a + 2 * B,D ++ eK (U ++ V)),⟨hle,by show(D ++ eK (U ++ V)).length=a + 2 * B;rw [a₉];omega,by show cs (2 * B) t=(D ++ eK (U ++ V)) ++ cs (2 * B) (t.drop (a + 2 * B));rw [h3,b₀]⟩,by show n - (a + 2 * B) < n - a;omega,?_⟩;try dsimp only
    rw [b₀];exact(vm [(2,_)] [] (h2:=by exact nF))
   ·have hle:n < a + 2 * B:=by have:=oF hd;omega
    have e3:=cs_short (B:=2 * B) (l:=t.drop a) om;try dsimp only
    refine ad ?_;refine ae rfl (fun hd=>?_) (fun hd=>?_)
    ·have hlt:a + B < n:=by have:=ot hd;omega
     have e1:=cs_step (B:=B) (l:=t.drop a) hB0 om;have e2:=cs_short (B:=B) (l:=(t.drop a).drop B) (by simp;omega);have h2':=JY (a₃ B (t.drop a)) hl;have l1:(eK ((t.drop a).take B)).length=B:=by rw [(bt _).length_eq];simp;omega
     have l2:(eK ((t.drop a).drop B)).length=n - (a + B):=by rw [(bt _).length_eq];simp;omega
     rw [e1,e2];rw [e3,← h2'.s] at h3;generalize eK ((t.drop a).take B)=U at *;generalize eK ((t.drop a).drop B)=V at *;have hsym:=Na (G:=G) n om n D U V [] a (a + B) n om h2 om om sm om om h2'.a h2'.b h2'.t h2'.n;rw [a₅,a₅,← h3] at hsym;refine ad ?_;refine yc (hsym) [(0,0),(1,1)] ?_;refine ad ?_;exact⟨2 * B,⟨by omega, .inr (by omega)⟩,by show n - 2 * B < n - B;omega,(by(try dsimp only);exact vm [(2,_)] [] (h2:=by exact nF))⟩
    ·have hlt:n≤a + B:=by have:=oF hd;omega
     have e1:=cs_short (B:=B) (l:=t.drop a) om;rw [e1,← e3,← h3];refine ad ?_;exact⟨2 * B,⟨by omega, .inr (by omega)⟩,by show n - 2 * B < n - B;omega,(by(try dsimp only);exact vm [(2,_)] [] (h2:=by exact nF))⟩
  ·have hBn:n≤B:=by have:=oF hd;omega
   try dsimp only
   rw [cs_short om];refine ad ?_;exact en []
end
section
open Go.RowKit Go.Lib
variable {G:GS} {w:World} {P:bE} {adr:er}
noncomputable def Di:TypeInfo:=(Tryz.prog.info? 39).get (by kernel_rfl)
noncomputable def Dk:TypeInfo:=(Tryz.prog.info? 64).get (by kernel_rfl)
theorem uY:Tryz.prog.info? 39=some Di:=by kernel_rfl
theorem Dm:Tryz.prog.info? 64=some Dk:=by kernel_rfl
theorem uZ:Di.desc= .slice 64:=by kernel_rfl
theorem Oj:Tryz.prog.packed 39=false:=by kernel_rfl
theorem Dn (w:World):(Extern.Rtype.kind 64).run Tryz.prog w= .ok 25 w:=by kernel_rfl
theorem QJ (n:Nat) (h2:2≤n):swapperK n Dk 25=9:=by
 have a:Dk.hasPointers=true:=by kernel_rfl
 have b:(Dk.bytes == 8)=false:=by kernel_rfl
 have c:(n == 0)=false:=by simp;omega
 have d:(n == 1)=false:=by simp;omega
 simp [swapperK,a,b,c,d]
theorem Ka {c es off n:Nat} {u:Value} (h:aJ w P adr (.ms c es off n) u): ∃p cap,u= .slice p n cap∧bI w P adr (.ms c es off n) [.slice p n cap] :=by
 cases h with
 | val cs h=>
  cases h with
  | ms0=>exact ⟨none,0,rfl, .ms0⟩
  | ms g o cap h1 h2 h3 h4 h5=>exact ⟨_,cap,rfl, .ms g o cap h1 h2 h3 h4 h5⟩
theorem EU {t n es c off:Nat} {u:Value} (h:aJ w P adr (.ifc t (.ms c es off n)) u): ∃p cap,u= .iface t (.slice p n cap)∧bI w P adr (.ms c es off n) [.slice p n cap] :=by
 cases h with
 | val cs h=>
  cases h with
  | ifc cs hr=>
   obtain⟨p,cap,h1,h2⟩:=Ka (.val cs hr);exact⟨p,cap,by rw [← h1];rfl,h2⟩
theorem qR (n:Nat) (t:List TE):BV Tryz.prog G 167 [.ifc 39 (.ms 1 41 0 n)] (aV n t) 2 (.st [Dh 39, .ptr 2 1 0 0 [], .int .u64 151]) ((2,⟨39,1,false,0,[.ms 1 41 0 n]⟩) :: aV n t) 3:=by
 intro w P adr vals hg hI hn hL hargs;cases hargs with | cons a1 hargs=>
 cases hargs;obtain⟨p,cap,rfl,hr⟩:=EU a1;have hf:(callFunc 167 #[.iface 39 (.slice p n cap)]).run Tryz.prog w=_:=
  run_callFunc_extern Tryz.func167 (by kernel_rfl) (by kernel_rfl) (by kernel_rfl) (e:=fun args=>Extern.ReflectliteValue.unpack (args.getD 0 (.tuple #[]))) (by kernel_rfl) _ w
 rw [show (#[.iface 39 (.slice p n cap)] :Array Value).getD 0 (.tuple #[])= .iface 39 (.slice p n cap) from rfl,run_valueOf_slice _ _ Di uY uZ] at hf;have hb:=Below.alloc1 w (.cells #[.slice p n cap] 39);obtain⟨i1,k1⟩:=hI.new (b:=⟨39,1,false,0,[.ms 1 41 0 n]⟩) (hn 2 (a₄ _)) rfl hb (cur:= #[.slice p n cap]) (parts:= [[.slice p n cap]]) (by show(w.heap.push _)[w.heap.size]? =_;simp) rfl sm (fun j x q hx hq=>by
  match j with
  | 0=>simp at hx hq;subst hx hq;exact hr
  | j + 1=>simp at hx) sm (b₄ _)
 rw [JS] at i1;refine⟨_,_,hf,_,rfl,P,_,i1,?_,k1,fun c hc=>aK _ _ om,fun c hc=>(aK _ _ om).trans (hn c om),fun c g hc=>?_,fun b o ho=> .inl ho,(bo.of_below hb).weak fun _ e=>e.elim⟩
 ·exact .val _ (.st [[typeHandle Tryz.prog 39],[.pointer (some ⟨w.heap.size,0,none⟩)],[.int .u64 151]] rfl fun j m q hm hq=>by
   match j with
   | 0=>simp at hm hq;subst hm hq;exact .gp
   | 1=>simp at hm hq;subst hm hq;exact .ptr (fo:=0) (k:=0) w.heap.size (aE _ _ _)
   | 2=>simp at hm hq;subst hm hq;exact .int
   | j + 3=>simp at hm)
 ·by_cases h:c=2
  ·subst h;rw [aE] at hc;injection hc with hc;exact .inl om
  ·rw [aK _ _ h] at hc;exact .inr ⟨c,hc⟩
theorem Kb (n:Nat) (t:List TE) {g:Nat} (hI:aU w P adr (VM.get (aV n t))) (hg:adr 0=some g): ∃p cap,w.cell? ⟨g,0,none⟩=some (.slice p n cap):=by
 rcases hI.blk 0 _ rfl with h | ⟨g',h1,h2⟩
 ·rw [hg] at h;cases h.2.2.1
 ·rw [hg] at h1;injection h1 with h1
  subst h1;obtain⟨cur,parts,q1,q2,q3,q4,q5⟩:=h2.ofE (by show(1:Nat)≠0;omega)
  match parts,q2 with
  | [s],_=>
   have hr:=q4 0 _ s rfl rfl;obtain⟨p,cap,hu,hv⟩:=Ka (.val s hr);have hs:s.length=1:=q3 s sm
   match s,hs with
   | [u],_=>
    have:u= .slice p n cap:=hu;subst this;refine⟨p,cap,?_⟩;rw [cell_of_row w g 0 cur _ (0,0) q1];have:=cM q5 (j:=0) (x:= .slice p n cap) sm;simpa using this
theorem ou (n:Nat) (t:List TE):BV Tryz.prog G 170 [.st [Dh 39, .ptr 0 1 0 0 [], .int .u64 151]] (aV n t) 2 (.int .i64 n) (aV n t) 2:=by
 intro w P adr vals hg hI hn hL hargs;cases hargs with | cons a1 hargs=>
 cases hargs;obtain⟨cs,h1,rfl⟩:=a1.agg_ rfl;cases h1 with | st parts hp hr=>
 match parts,hp with
 | [c0,c1,c2],_=>
  have r0:=hr 0 _ c0 rfl rfl;have r1:=hr 1 _ c1 rfl rfl;have r2:=hr 2 _ c2 rfl rfl;cases r0;cases r2;cases r1 with | ptr g h1=>
  obtain⟨p,cap,hc⟩:=Kb n t hI h1;have hf:(callFunc 170 #[.agg #[typeHandle Tryz.prog 39, .pointer (some ⟨g,0,none⟩), .int .u64 151]]).run Tryz.prog w=_:=
   run_callFunc_extern Tryz.func170 (by kernel_rfl) (by kernel_rfl) (by kernel_rfl) (e:=Extern.ReflectliteValue.method (Extern.ReflectliteValue.valueError "reflectlite.Value.Len" 0) Extern.ReflectliteValue.len) (by kernel_rfl) _ w
  rw [run_valueLen_slice _ _ Di uY uZ Oj _ _ _ _ _ hc] at hf;exact⟨_,_,hf,_,rfl,P,adr,hI, .val [_] .int,bj.refl _ _ _,fun _ _=>rfl,hn,fun c g hc=> .inr ⟨c,hc⟩,fun b o ho=> .inl ho,bo.refl _ _⟩
noncomputable def u7 (n:Nat):MV:=if n=0 then .fn 206 [] else if n=1 then .fn 207 [] else .fn 214 [.ms 1 41 0 n,Dh 64]
theorem G0 (n:Nat) (t:List TE):BV Tryz.prog G 168 [.ifc 39 (.ms 1 41 0 n)] (aV n t) 2 (u7 n) (aV n t) 2:=by
 intro w P adr vals hg hI hn hL hargs;cases hargs with | cons a1 hargs=>
 cases hargs;obtain⟨p,cap,rfl,hr⟩:=EU a1;have hf:(callFunc 168 #[.iface 39 (.slice p n cap)]).run Tryz.prog w=_:=
  run_callFunc_extern Tryz.func168 (by kernel_rfl) (by kernel_rfl) (by kernel_rfl) (e:=Extern.ReflectliteSwapper.swapper "internal/reflectlite" (Extern.ReflectliteValue.valueError "Swapper")) (by kernel_rfl) _ w
 have fin: ∀v,(callFunc 168 #[.iface 39 (.slice p n cap)]).run Tryz.prog w= .ok (.value v) w→aJ w P adr (u7 n) v→sY Tryz.prog 168 #[.iface 39 (.slice p n cap)] w fun e w'=> ∃v,e= .returned v∧∃P' adr',aU w' P' adr' (VM.get (aV n t))∧aJ w' P' adr' (u7 n) v∧bj w w' P P' adr adr'∧(∀c,c < 2→adr' c=adr c)∧(∀c,2≤c→adr' c=none)∧
   (∀c g,adr' c=some g→w.heap.size≤g∨∃c0,adr c0=some g)∧(∀b o,P' b o→P b o∨w.heap.size≤b∨∃c0,adr c0=some b)∧bo (fun g=> ∃c0,adr c0=some g) w w':=
  fun v hv hr=>⟨_,_,hv,_,rfl,P,adr,hI,hr,bj.refl _ _ _,fun _ _=>rfl,hn,fun c g hc=> .inr ⟨c,hc⟩,fun b o ho=> .inl ho,bo.refl _ _⟩
 match n with
 | 0=>
  rw [run_swapper_slice _ _ Di Dk uY uZ Dm 25 Dn p 0 cap 206 (by kernel_rfl)] at hf;exact fin _ hf (.val _ (.fn [] rfl fun j m q h=>by simp at h))
 | 1=>
  rw [run_swapper_slice _ _ Di Dk uY uZ Dm 25 Dn p 1 cap 207 (by kernel_rfl)] at hf;exact fin _ hf (.val _ (.fn [] rfl fun j m q h=>by simp at h))
 | k + 2=>
  have hk:=QJ (k + 2) om;rw [run_swapper_slice _ _ Di Dk uY uZ Dm 25 Dn p (k + 2) cap 214 (by rw [hk];kernel_rfl),hk] at hf;refine fin _ hf ?_;have e:u7 (k + 2)= .fn 214 [.ms 1 41 0 (k + 2),Dh 64] :=by unfold u7;rw [if_neg om,if_neg om]
  rw [e];exact .val _ (.fn [[.slice p (k + 2) cap],[typeHandle Tryz.prog 64]] rfl fun j m q hm hq=>by
   match j with
   | 0=>simp at hm hq;subst hm hq;exact hr
   | 1=>simp at hm hq;subst hm hq;exact .gp
   | j + 2=>simp at hm)
end
section
variable {G:GS}
theorem Kc (c:List Ent) (k:Nat) (e:Ent):setL (c.map au) (0 + k) (au e)=(c.set k e).map au:=by rw [setL_eq,Nat.zero_add,List.map_set]
theorem G4 (l:List Ent) (hl:l.length < 1000000000):aL Tryz.prog G 142 [.ms 0 41 0 l.length] [(0,⟨64,41,true,0,l.map au⟩)] 1 (.tup []) [(0,⟨64,41,true,0,l.reverse.map au⟩)] 1:=by
 refine bU seat Tryz.func142 28 ?_;refine ad ?_;refine ar (Nat×List Ent×List Ent×List Ent) (fun x=> [(3, .int .i64 ((l.length:Int) - 1 - x.1)),(2, .int .i64 x.1),(0, .ms 0 41 0 l.length)]) (fun x=> [(0,⟨64,41,true,0,(x.2.1 ++ (x.2.2.1 ++ x.2.2.2)).map au⟩)]) 1 (fun x=>x.2.1.length=x.1∧x.2.2.2.length=x.1∧x.1 + x.2.2.1.length + x.1=l.length∧l.reverse=x.2.1 ++ (x.2.2.1.reverse ++ x.2.2.2)) (fun x=>x.2.2.1.length) (0,[],l,[]) ⟨rfl,rfl,sm,sm⟩ ?_ ?_
 ·dsimp only;rw [b₆,a₅];exact(vm [] [])
 rintro⟨i,A,M,B⟩ ⟨h1,h2,h3,h4⟩;try dsimp only
 dsimp only at h1 h2 h3 h4;refine ad ?_;refine ae rfl (fun hd=>?_) (fun hd=>?_)
 ·have hlt:2≤M.length:=by have:=ot hd;omega
  obtain⟨x,M',rfl⟩: ∃x M',M=x :: M':=by cases M with | nil=>simp at hlt | cons x M'=>exact ⟨x,M',rfl⟩
  obtain⟨M,y,rfl,hM⟩:=Po M' (k:=M'.length - 1) (by simp at hlt;omega);have hML:(x :: (M ++ [y])).length=M.length + 2:=sm;rw [hML] at h3 hlt;clear hM;have hc:A ++ ((x :: (M ++ [y])) ++ B)=A ++ x :: (M ++ y :: B):=sm;have hsw:Df (A ++ x :: (M ++ y :: B)) i (l.length - 1 - i)=A ++ y :: (M ++ x :: B):=mL h1 om;have hlen:(A ++ x :: (M ++ y :: B)).length=l.length:=by simp;omega
  have hx:(A ++ x :: (M ++ y :: B))[i]? =some x:=by subst h1;simp
  have hy:(A ++ x :: (M ++ y :: B))[l.length - 1 - i]? =some y:=by
   have e:A ++ x :: (M ++ y :: B)=(A ++ x :: M) ++ y :: B:=sm;rw [e,a₁ (by simp;omega),show l.length - 1 - i - (A ++ x :: M).length=0 by simp;omega];rfl
  have hset:((A ++ x :: (M ++ y :: B)).set i y).set (l.length - 1 - i) x=A ++ y :: (M ++ x :: B):=by
   rw [← hsw];unfold Df;rw [hx,hy]
  rw [hc,show ((l.length:Int) - 1 - i)=((l.length - 1 - i:Nat):Int) by omega];generalize hC:A ++ x :: (M ++ y :: B)=c at *;generalize hJ:l.length - 1 - i=j at *;have f1:=al.mk (AM hy);have f2:=al.mk (AM hx);have f3:=aX.mk (Kc c i y);have f4:=al.mk (AM (c:=c.set i y) (k:=j) (e:=y) (by rw [List.getElem?_set_ne om];exact hy));have f5:aX (setL ((c.set i y).map au) (0 + j) (au x)) ((A ++ y :: (M ++ x :: B)).map au):=aX.mk (by rw [Kc,hset]);refine ad ?_;refine av [ag 0,ag 1,ag 2,ag 3,ag 4,ag 5,ag 6,ag 7,ag 8,ag 9,ag 10,ag 11,ag 12,ag 13,ag 14,ag 15] ?_;refine ad ?_;refine⟨(i + 1,A ++ [y],M,x :: B),⟨by simp [h1],by simp [h2],by show i + 1 + M.length + (i + 1)=l.length;omega,by rw [h4];simp⟩,by show M.length < (x :: (M ++ [y])).length;rw [hML];omega,?_⟩;try dsimp only
  rw [show (A ++ [y]) ++ (M ++ x :: B)=A ++ y :: (M ++ x :: B) by simp];exact(vm [] [])
 ·have hlt:M.length≤1:=by have:=oF hd;omega
  have hM:M.reverse=M:=by
   match M,hlt with
   | [],_=>rfl
   | [x],_=>rfl
   | _ :: _ :: _,h=>simp at h
  rw [hM] at h4;rw [h4];refine ad ?_;exact en []
end
section
variable {G:GS}
abbrev EV:MV:= .fn 144 [.ptr 0 1 0 0 []]
theorem Kd (n:Nat) (hn:n≤1) (t:List TE) (f:FuncId):aL Tryz.prog G 215 [.st [EV, .fn f []], .int .i64 0, .int .i64 n] (aV n t) 2 (.tup []) (aV n t) 2:=by
 refine bU seat Tryz.func215 35 ?_;refine ad ?_;refine ar Unit (fun _=> [(6, .int .i64 1),(2, .int .i64 n)]) (fun _=>aV n t) 2 (fun _=>True) (fun _=>0) () trivial (vm [] []) ?_;intro _ _;refine ad ?_;refine ae rfl ?_ ?_ <;> intro h
 ·exfalso;have:=ot h;omega
 ·refine ad ?_;exact en []
theorem rQ (n:Nat) (hn:n≤1) (t:List TE) (f:FuncId):aL Tryz.prog G 169 [.st [EV, .fn f []], .int .i64 n] (aV n t) 2 (.tup []) (aV n t) 2:=by
 refine bU seat Tryz.func169 57 ?_;refine ad ?_;refine ar Unit (fun _=> [(6, .int .i64 20),(5, .int .i64 0),(4, .int .i64 20),(2, .ptr 2 2 0 0 []),(1, .int .i64 n)]) (fun _=>aV n t ++ [(2,⟨229,2,false,0,[.st [EV, .fn f []]]⟩)]) 3 (fun _=>True) (fun _=>0) () trivial (vm [(2,_)] []) ?_;intro _ _;refine ad ?_;refine ae rfl ?_ ?_ <;> intro h
 ·exfalso;have:=ot h;omega
 ·refine ad ?_;refine yc (Kd n hn t f) [(0,0),(1,1)] ?_;refine ad ?_;refine ar Unit (fun _=> [(4, .int .i64 20),(1, .int .i64 n)]) (fun _=>aV n t) 2 (fun _=>True) (fun _=>0) () trivial (vm [] []) ?_;intro _ _;refine ad ?_;refine ae rfl ?_ ?_ <;> intro h
  ·exfalso;have:=ot h;omega
  ·refine ad ?_;exact en []
theorem vV (n:Nat) (hN:n < 288230376151711744) (t:List TE) (hn:t.length=n) (ht:lD t):aL Tryz.prog G 143 [.ifc 39 (.ms 1 41 0 n),EV] (aV n t) 2 (.tup []) (aV n (eK t)) 2:=by
 have hsw:=G0 (G:=G) n t;by_cases h0:n=0
 ·have e:u7 n= .fn 206 [] :=by unfold u7;rw [if_pos h0]
  rw [e] at hsw;have hst:=rQ (G:=G) n om t 206;rw [yP om];refine bU seat Tryz.func143 16 ?_;refine ad ?_;refine dQ rfl (fun _ h=>h) rfl (qR n t) [(0,0),(1,1)] [] ⟨rfl,trivial,rfl,lm,mm⟩ rfl rfl ?_;refine ad ?_;refine dQ rfl (fun _ h=>h) rfl (hsw) [(0,0),(1,1)] [] ⟨rfl,trivial,rfl,lm,mm⟩ rfl rfl ?_;refine ad ?_;refine dQ rfl (fun _ h=>h) rfl (ou n t) [(0,_),(1,1)] [] ⟨rfl,trivial,rfl,lm,mm⟩ rfl rfl ?_;refine ad ?_;refine yc (hst) [(0,0),(1,1)] ?_;refine ad ?_;exact en []
 by_cases h1:n=1
 ·have e:u7 n= .fn 207 [] :=by unfold u7;rw [if_neg h0,if_pos h1]
  rw [e] at hsw;have hst:=rQ (G:=G) n om t 207;rw [yP om];refine bU seat Tryz.func143 16 ?_;refine ad ?_;refine dQ rfl (fun _ h=>h) rfl (qR n t) [(0,0),(1,1)] [] ⟨rfl,trivial,rfl,lm,mm⟩ rfl rfl ?_;refine ad ?_;refine dQ rfl (fun _ h=>h) rfl (hsw) [(0,0),(1,1)] [] ⟨rfl,trivial,rfl,lm,mm⟩ rfl rfl ?_;refine ad ?_;refine dQ rfl (fun _ h=>h) rfl (ou n t) [(0,_),(1,1)] [] ⟨rfl,trivial,rfl,lm,mm⟩ rfl rfl ?_;refine ad ?_;refine yc (hst) [(0,0),(1,1)] ?_;refine ad ?_;exact en []
 have e:u7 n= .fn 214 [.ms 1 41 0 n,Dh 64] :=by unfold u7;rw [if_neg h0,if_neg h1]
 rw [e] at hsw;have hst:=JZ (G:=G) n hN t hn ht;unfold dX at hst;refine bU seat Tryz.func143 16 ?_;refine ad ?_;refine dQ rfl (fun _ h=>h) rfl (qR n t) [(0,0),(1,1)] [] ⟨rfl,trivial,rfl,lm,mm⟩ rfl rfl ?_;refine ad ?_;refine dQ rfl (fun _ h=>h) rfl (hsw) [(0,0),(1,1)] [] ⟨rfl,trivial,rfl,lm,mm⟩ rfl rfl ?_;refine ad ?_;refine dQ rfl (fun _ h=>h) rfl (ou n t) [(0,_),(1,1)] [] ⟨rfl,trivial,rfl,lm,mm⟩ rfl rfl ?_;refine ad ?_;refine yc (hst) [(0,0),(1,1)] ?_;refine ad ?_;exact en []
theorem Mt (l:List Ent) (hl:l.length < 1000000) (hok: ∀e∈l,e.raw.length < 536870912∧e.peers.length < 536870912):aL Tryz.prog G 102 [.sl l.length (l.map au)] [] 0 (.sl l.length ((aB l).map au)) [] 0:=by
 have hsort:=vV (G:=G) l.length om (tag 0 l.reverse) (by rw [tag_len];simp) (JP _ _);have e1:(tag 0 l.reverse).map ES=l.reverse.map au:=by
  have:(tag 0 l.reverse).map ES=((tag 0 l.reverse).map (·.1)).map au:=by rw [b₇];rfl
  rw [this,ER]
 have e2:(eK (tag 0 l.reverse)).map ES=(aB l).map au:=by
  have:(eK (tag 0 l.reverse)).map ES=((eK (tag 0 l.reverse)).map (·.1)).map au:=by rw [b₇];rfl
  rw [this,yN];rfl
 have e3:(aB l).length=l.length:=by
  have:=congrArg List.length (yN 0 l.reverse);rw [b₃,(bt _).length_eq,tag_len,List.length_reverse] at this;exact this.symm
 unfold aV Mo at hsort;rw [e1,e2] at hsort;have hrev:=G4 (G:=G) l om;refine bU seat Tryz.func102 13 ?_;refine ad ?_;refine yc (pO l hl hok) [] ?_;refine ad ?_;refine bR rfl (fun _ h=>h) rfl (hrev) [(0,_)] [] ⟨rfl,trivial,rfl,lm,mm⟩ rfl rfl ?_;refine ad ?_;refine bR rfl (fun _ h=>h) rfl (hsort) [(0,_),(1,_)] [] ⟨rfl,trivial,rfl,lm,mm⟩ rfl rfl ?_;refine ad ?_;refine⟨[_],[],[(2,l.length)],rfl,rfl,?_,rfl,⟨?_,trivial⟩,?_⟩
 ·exact⟨by show l.length≤((aB l).map au).length;rw [b₃,e3];exact a₄ _,trivial⟩
 ·exact .inr ⟨rfl,rfl,rfl,Nat.le_of_eq (Nat.zero_add _),by rw [← e3];exact bV au _⟩
 ·exact mm
end
section
variable {G:GS}
theorem Pp (s:Int) (h:s < 9223372036854775808):IntKind.u64.wrap (if (0:Int) > s then 0 else s)=max s 0:=by
 by_cases hs:(0:Int) > s
 ·rw [if_pos hs,bu 0 om om];omega
 ·rw [if_neg hs,bu s om om];omega
def Ke (x:Int):MB:=⟨3,1,false,0,[.int .i64 x]⟩
def EW (c b s t m:Int):VM:= [(0,Ke c),(1,Ke t),(2,Ke m),(3,Ke b),(4,Ke s)]
theorem yS (c b s t m:Int) (hb:0≤b∧b < 4611686018427387904) (hs:s < 9223372036854775808) (hm:m < 9223372036854775808) :
  aL Tryz.prog G 101 [.ptr 0 1 0 0 [], .ptr 1 1 0 0 [], .ptr 2 1 0 0 [], .ptr 3 1 0 0 [], .ptr 4 1 0 0 []] (EW c b s t m) 5 (.bool (gA c b s t m)) (EW c b s t m) 5:=by
 unfold gA
 refine bU seat Tryz.func101 24 ?_
 refine ad ?_
 refine ah rfl rfl ?_ rfl ?_ <;> intro h
 ·have h0:=ot h
  refine ad ?_
  refine ah rfl rfl ?_ rfl ?_ <;> intro h
  ·have h1:=ot h
   (have fct:=aX.mk (Pp s hs);refine ad ?_)
   refine⟨[_],[],[],rfl,rfl,trivial,rfl,⟨?_,trivial⟩,?_⟩
   ·exact⟨congrArg MV.bool (decide_eq_decide.2 om),rfl⟩
   ·exact mm
  ·have h2: ¬ 0≤m:=oF (by simpa using h)
   refine ad ?_
   refine⟨[_],[],[],rfl,rfl,trivial,rfl,⟨?_,trivial⟩,?_⟩
   ·exact⟨congrArg MV.bool (decide_eq_false om),rfl⟩
   ·exact mm
 ·have h2: ¬ c < t:=oF (by simpa using h)
  refine ad ?_
  refine⟨[_],[],[],rfl,rfl,trivial,rfl,⟨?_,trivial⟩,?_⟩
  ·exact⟨congrArg MV.bool (decide_eq_false om),rfl⟩
  ·exact mm
theorem Kf (l:List Ent) (hl:l.length < 1000000) (hok: ∀e∈l,e.raw.length≤1000000∧e.peers.length < 536870912) (p s t m:Int) (hs: -9223372036854775808≤s∧s < 9223372036854775808) (hm:m < 9223372036854775808) :
  aL Tryz.prog G 55 [.sl l.length (l.map au), .int .u64 p, .int .i64 s, .int .i64 t, .int .i64 m] [] 0 (.tup [.ms 0 32 0 (cK p s t m l).1.length, .bool (cK p s t m l).2]) (mJ (cK p s t m l).1) 1:=by
 have hOp:=js l
 have hOl:(aB l).length=l.length:=hOp.length_eq
 have hOb:bytesS (aB l)=bytesS l:=lu hOp
 have hord:=Mt (G:=G) l hl fun e he=>⟨by have:=(hok e he).1;omega,(hok e he).2⟩
 unfold mJ
 refine bU seat Tryz.func55 67 ?_
 refine ad ?_
 refine ar Nat (fun k=> [(24, .int .i64 k),(23, .int .i64 l.length),(22, .sl l.length (l.map au)),(13, .ptr 3 1 0 0 []),(12, .ptr 0 1 0 0 []),(9, .ptr 2 1 0 0 []),(8, .ptr 1 1 0 0 []),(7, .ptr 4 1 0 0 []),(1, .int .u64 p),(0, .sl l.length (l.map au))]) (fun k=>EW l.length (bytesS (l.take k)) s t m) 5 (fun k=>k≤l.length) (fun k=>l.length - k) 0 (b₄ _) (vm [(0,_),(1,_),(2,_),(3,_),(4,_)] []) ?_
 intro k hk
 try dsimp only
 refine ad ?_
 refine ae rfl ?_ ?_ <;> intro h
 ·have hk':k < l.length:=by have:=ot h;omega
  have hke:=(hok _ (List.getElem_mem hk')).1
  have hb:=ng l 1000000 (fun e he=>(hok e he).1) k
  have hs2:=gk l hk'
  (have fct:=al.mk (dS hk');refine ad ?_)
  refine⟨k + 1,by show k + 1≤l.length;omega,by show l.length - (k + 1) < l.length - k;omega,?_⟩
  dsimp only
  rw [hs2]
  exact(vm [(0,_),(1,_),(2,_),(3,_),(4,_)] [])
 ·have hk':k=l.length:=by have:=oF h;omega
  subst hk'
  rw [c₂]
  refine ad ?_
  refine kX (hord) ?_
  refine ar Nat (fun k=> [(38, .int .i64 k),(37, .int .i64 l.length),(36, .sl l.length ((aB l).map au)),(17, .ms 5 32 0 k),(16, .fn 101 [.ptr 0 1 0 0 [], .ptr 1 1 0 0 [], .ptr 2 1 0 0 [], .ptr 3 1 0 0 [], .ptr 4 1 0 0 []]),(13, .ptr 3 1 0 0 []),(12, .ptr 0 1 0 0 []),(1, .int .u64 p)]) (fun k=>EW ((l.length:Int) - k) ((bytesS l:Int) - bytesS ((aB l).take k)) s t m ++ [(5,⟨55,32,true,0,((aB l).take k).map fun e=>keyM e.key⟩)]) 6 (fun k=>k≤l.length∧IH p s t m (aB l) l.length (bytesS l) k) (fun k=>l.length - k) 0 ⟨b₄ _,?_⟩ ?_ ?_
  ·refine⟨(selG p s t m (aB l) l.length (bytesS l)).1,(selG p s t m (aB l) l.length (bytesS l)).2.1,(selG p s t m (aB l) l.length (bytesS l)).2.2,?_,rfl⟩
   simp [bytesS]
  ·try dsimp only
   rw [show ((bytesS l:Int) - bytesS ((aB l).take 0))=bytesS l by simp [bytesS]]
   exact(vm [(0,_),(1,_),(2,_),(3,_),(4,_)] [])
  rintro k ⟨hk1,hI⟩
  try dsimp only
  have hbk:bytesS ((aB l).take k)≤bytesS l:=by
   have:=gC (aB l) k
   omega
  have hB:=ng l 1000000 (fun e he=>(hok e he).1) l.length
  rw [c₂] at hB
  refine ad ?_
  refine ae rfl ?_ ?_ <;> intro h
  ·have hk':k < l.length:=by have:=ot h;omega
   have hkO:k < (aB l).length:=om
   have hs2:=gk (aB l) hkO
   have hbk2:bytesS ((aB l).take (k + 1))≤bytesS l:=by
    have:=gC (aB l) (k + 1)
    omega
   have hroom:=yS (G:=G) ((l.length:Int) - k) ((bytesS l:Int) - bytesS ((aB l).take k)) s t m om hs.2 hm
   cases hr:gA ((l.length:Int) - k) ((bytesS l:Int) - bytesS ((aB l).take k)) s t m with
   | true=>
    have hsel:=jt hI (.inr ⟨hkO,by rw [hr];rfl⟩)
    rw [hr] at hroom
    (have fct:=al.mk (uo hOl hk');refine ad ?_)
    refine yc (hroom) [(0,0),(1,1),(2,2),(3,3),(4,4)] ?_
    have hcall:=yS (G:=G) ((l.length:Int) - k) ((bytesS l:Int) - bytesS ((aB l).take k)) s t m om hs.2 hm
    cases hroom:gA ((l.length:Int) - k) ((bytesS l:Int) - bytesS ((aB l).take k)) s t m with
    | true=>
     rw [hroom] at hcall
     rw [show cK p s t m l=(((aB l).take k).map (·.key),true) by unfold cK;rw [hsel];simp only [hroom]]
     dsimp only
     rw [b₇,b₃,show ((aB l).take k).length=k by rw [c₃];omega]
     refine ad ?_
     refine yc (hcall) [(0,0),(1,1),(2,2),(3,3),(4,4)] ?_
     refine ad ?_
     exact eb [_,_] [(0,5)] []
    | false=>
     rw [hroom] at hcall
     rw [show cK p s t m l=([],false) by unfold cK;rw [hsel];simp only [hroom]]
     refine ad ?_
     refine yc (hcall) [(0,0),(1,1),(2,2),(3,3),(4,4)] ?_
     refine ad ?_
     exact en [_,_]
   | false=>
    rw [hr] at hroom
    (have fct:=al.mk (uo hOl hk');refine ad ?_)
    refine yc (hroom) [(0,0),(1,1),(2,2),(3,3),(4,4)] ?_
    refine ad ?_
    refine ae rfl ?_ ?_ <;> intro h
    ·have hp:=ot h
     have hsel:=jt hI (.inr ⟨hkO,by rw [hr];simpa using hp⟩)
     have hcall:=yS (G:=G) ((l.length:Int) - k) ((bytesS l:Int) - bytesS ((aB l).take k)) s t m om hs.2 hm
     cases hroom:gA ((l.length:Int) - k) ((bytesS l:Int) - bytesS ((aB l).take k)) s t m with
     | true=>
      rw [hroom] at hcall
      rw [show cK p s t m l=(((aB l).take k).map (·.key),true) by unfold cK;rw [hsel];simp only [hroom]]
      dsimp only
      rw [b₇,b₃,show ((aB l).take k).length=k by rw [c₃];omega]
      refine ad ?_
      refine yc (hcall) [(0,0),(1,1),(2,2),(3,3),(4,4)] ?_
      refine ad ?_
      exact eb [_,_] [(0,5)] []
     | false=>
      rw [hroom] at hcall
      rw [show cK p s t m l=([],false) by unfold cK;rw [hsel];simp only [hroom]]
      refine ad ?_
      refine yc (hcall) [(0,0),(1,1),(2,2),(3,3),(4,4)] ?_
      refine ad ?_
      exact en [_,_]
    ·have hp:=oF h
     have hstep:=qz hkO hI (by rw [hr];simpa using hp)
     refine ad ?_
     refine bc rfl rfl (by intro R hR;refine dZ hR ?_;(refine And.intro (a₄ _) ?_;refine⟨_,rfl,?_⟩;refine And.intro ⟨(by simp;omega),aF (by kernel_rfl) pf⟩ ?_;refine⟨((aB l).take (k + 1)).map fun e=>keyM e.key,sv (by rw [a₈ hkO,List.map_append];rfl),k + 1,sv pf,?_⟩);exact hR) rfl ?_
     refine ad ?_
     exact⟨k + 1,⟨om,hstep⟩,by show l.length - (k + 1) < l.length - k;omega,(by dsimp only;exact(vm [(0,_),(1,_),(2,_),(3,_),(4,_),(5,_)] []))⟩
  ·have hk':k=l.length:=by have:=oF h;omega
   have hsel:=jt hI (.inl om)
   have hcall:=yS (G:=G) ((l.length:Int) - k) ((bytesS l:Int) - bytesS ((aB l).take k)) s t m om hs.2 hm
   cases hroom:gA ((l.length:Int) - k) ((bytesS l:Int) - bytesS ((aB l).take k)) s t m with
   | true=>
    rw [hroom] at hcall
    rw [show cK p s t m l=(((aB l).take k).map (·.key),true) by unfold cK;rw [hsel];simp only [hroom]]
    dsimp only
    rw [b₇,b₃,show ((aB l).take k).length=k by rw [c₃];omega]
    refine ad ?_
    refine yc (hcall) [(0,0),(1,1),(2,2),(3,3),(4,4)] ?_
    refine ad ?_
    exact eb [_,_] [(0,5)] []
   | false=>
    rw [hroom] at hcall
    rw [show cK p s t m l=([],false) by unfold cK;rw [hsel];simp only [hroom]]
    refine ad ?_
    refine yc (hcall) [(0,0),(1,1),(2,2),(3,3),(4,4)] ?_
    refine ad ?_
    exact en [_,_]
end
section
def vX (raw:List UInt8) (l:fH):Prop:=cP l=0∧iQ l∧(aI raw).2=0∧(aS l.acs (aI raw).1.sender).2=true∧(aI raw).1.seq < (aS l.acs (aI raw).1.sender).1.seq
theorem u9 {raw:List UInt8} {l:fH} {p:Nat} (hl:iQ l) (h:(oh l p raw).2.code=0):vX raw (oh l p raw).1:=by
 obtain⟨h1,_,h3⟩:=Bk p raw (GO h) hl;exact⟨h1,(ui hl).1,h3 h⟩
theorem G5 {raw:List UInt8} {l:fH} (p:Nat) (raw2:List UInt8) (h:vX raw l):vX raw (oh l p raw2).1:=by
 obtain⟨h1,h2,h3,h4,h5⟩:=h;obtain⟨k1,k2,_⟩:=Bk p raw2 h1 h2;obtain⟨k3,k4⟩:=k2 _ h4;exact⟨k1,(ui h2).1,h3,k3,om⟩
theorem qS {raw:List UInt8} {l:fH} (p:Nat) (h:vX raw l):(oh l p raw).2.code=14:=by
 obtain⟨h1,h2,h3,h4,h5⟩:=h;unfold oh;rw [if_neg (by rw [h1];simp),if_neg (by rw [h3];simp)];dsimp only;unfold dM;rw [if_neg (by rw [h4];simp),if_pos om]
theorem je (s:cL) (raw:List UInt8) (peer:Int):(aO s raw peer).1.cfg=s.cfg∧((aO s raw peer).1.app=s.app∨(aO s raw peer).1.app=fq s.app raw):=by
 have hseen: ∀(s:cL) (i p:Int),(dj s i p).cfg=s.cfg∧(dj s i p).app=s.app:=fun s i p=>by
  unfold dj
  repeat' split
  all_goals exact⟨rfl,rfl⟩
 have hforget: ∀(s:cL) (k:List UInt8),(dw s k).cfg=s.cfg∧(dw s k).app=s.app:=fun s k=>by
  unfold dw;split <;> exact⟨rfl,rfl⟩
 rcases qK s raw peer with ⟨_,h,_⟩ | ⟨c,_,_,h⟩
 ·rw [h];have hev: ∀(ks:List (List UInt8)) (s:cL),(fA s ks).cfg=s.cfg∧(fA s ks).app=s.app:=by
   intro ks
   induction ks with
   | nil=>intro s;exact⟨rfl,rfl⟩
   | cons k ks ih=>
    intro s;have hl:(dC s k).1.cfg=s.cfg∧(dC s k).1.app=s.app:=by unfold dC;split <;> exact⟨rfl,rfl⟩
    obtain⟨h1,h2⟩:=ih (eJ (dC s k).1 k);exact⟨h1.trans hl.1,h2.trans hl.2⟩
  unfold fS;dsimp only;exact⟨(hev _ _).1, .inr (by rw [(hev _ _).2];rfl)⟩
 ·generalize (aO s raw peer).1=n at *;cases h with
  | size=>exact ⟨rfl, .inl rfl⟩
  | seen=>exact ⟨(hseen _ _ _).1, .inl (hseen _ _ _).2⟩
  | bad=>exact ⟨(hforget _ _).1, .inl (hforget _ _).2⟩
  | full=>exact ⟨rfl, .inl rfl⟩
theorem va {raw:List UInt8} {s:cL} (raw2:List UInt8) (peer:Int) (h:vX raw s.app.chk):vX raw (aO s raw2 peer).1.app.chk:=by
 rcases(je s raw2 peer).2 with h1 | h1
 ·rw [h1];exact h
 ·rw [h1];exact G5 _ _ h
theorem vd {raw:List UInt8} {s:cL} {peer:Int} (hs:iQ s.app.chk) (h:(aO s raw peer).2.code=0):vX raw (aO s raw peer).1.app.chk∧(raw.length:Int)≤s.cfg.maxTx∧(iE raw.length:Int)≤s.cfg.blkB:=by
 rcases qK s raw peer with ⟨_,h1,h2,h3,_,_,h4⟩ | ⟨c,h0,h1,_⟩
 ·refine⟨?_,h4,?_⟩
  ·rcases(je s raw peer).2 with h5 | h5
   ·rw [h1] at h5;have e:(fA (bm s (aT raw)) (cK (bM s.app raw).prio raw.length s.cfg.maxTxs s.cfg.maxBytes s.ents).1).app=s.app:=by
     generalize (cK (bM s.app raw).prio raw.length s.cfg.maxTxs s.cfg.maxBytes s.ents).1=ks;have hev: ∀(ks:List (List UInt8)) (s:cL),(fA s ks).app=s.app:=by
      intro ks
      induction ks with
      | nil=>intro s;rfl
      | cons k ks ih=>
       intro s;have hl:(dC s k).1.app=s.app:=by unfold dC;split <;> rfl
       exact(ih (eJ (dC s k).1 k)).trans hl
     exact hev _ _
    unfold fS at h5;dsimp only at h5;rw [e] at h5;rw [h1];unfold fS;dsimp only;rw [e];exact u9 hs h3
   ·rw [h5];exact u9 hs h3
  ·unfold aO at h;dsimp only at h;rw [if_neg om] at h;split at h
   ·cases h
   ·omega
 ·rw [h1] at h;exact absurd h h0
theorem vf {raw:List UInt8} {s:cL} (peer:Int) (h:vX raw s.app.chk) (h1:(raw.length:Int)≤s.cfg.maxTx) (h2:(iE raw.length:Int)≤s.cfg.blkB):(aO s raw peer).2.code=23∨(aO s raw peer).2.code=14:=by
 unfold aO fB;dsimp only;rw [if_neg om,if_neg om];split
 ·exact .inl rfl
 ·have hc:(bM (bm s (aT raw)).app raw).code=14:=qS _ h;rw [if_pos (by rw [hc];decide)];exact .inr (by rw [hc];rfl)
end
section
theorem Ha (s:cL) (i p:Int): ∃l,dj s i p={ s with ents:=l }∧l.length=s.ents.length∧∀(j:Nat) (a b:Ent),l[j]? =some a→s.ents[j]? =some b→{ a with peers:=b.peers }=b:=by
 have same: ∃l,s={ s with ents:=l }∧l.length=s.ents.length∧∀(j:Nat) (a b:Ent),l[j]? =some a→s.ents[j]? =some b→{ a with peers:=b.peers }=b:=
  ⟨s.ents,rfl,rfl,fun j a b ha hb=>by rw [ha] at hb;injection hb with hb;subst hb;rfl⟩
 unfold dj;split
 ·split
  ·rename_i e he;split
   ·exact same
   ·refine⟨_,rfl,List.length_set ..,fun j a b ha hb=>?_⟩;rcases bG ha with ⟨rfl,rfl⟩ | ⟨_,ha⟩
    ·rw [he] at hb;injection hb with hb;subst hb;rfl
    ·rw [ha] at hb;injection hb with hb;subst hb;rfl
  ·exact same
 ·exact same
theorem Kg {s n:cL} {raw:List UInt8} {peer c:Int} (h:Hp s raw peer n c): ∃l m,n={ s with ents:=l,cache:=m }∧l.length=s.ents.length∧∀(j:Nat) (a b:Ent),l[j]? =some a→s.ents[j]? =some b→{ a with peers:=b.peers }=b:=by
 have same: ∀(j:Nat) (a b:Ent),s.ents[j]? =some a→s.ents[j]? =some b→{ a with peers:=b.peers }=b:=fun j a b ha hb=>by rw [ha] at hb;injection hb with hb;subst hb;rfl
 cases h with
 | size=>exact ⟨s.ents,s.cache,rfl,rfl,same⟩
 | seen=>
  obtain⟨l,h1,h2,h3⟩:=Ha (bm s (aT raw)) (jF (aT raw) s.ents) peer;exact⟨l,(bm s (aT raw)).cache,h1,h2,h3⟩
 | bad=>
  unfold dw;split
  ·exact⟨s.ents,_,rfl,rfl,same⟩
  ·exact⟨s.ents,_,rfl,rfl,same⟩
 | full=>exact ⟨s.ents,_,rfl,rfl,same⟩
theorem Kh {s n:cL} {raw:List UInt8} {peer c:Int} (hc:qC s.cfg) (h:cZ s) (hr:Hp s raw peer n c) :
  ((c=20∨c=21)→n.cache=s.cache)∧(c=24→aT raw ∉ n.cache)∧(c=23→aT raw∈s.cache∨∃e∈s.ents,e.key=aT raw)∧
  (c≠20→c≠21→c≠23→c≠24→(aT raw∈n.cache↔s.cfg.keep=true∧0 < s.cfg.cache)):=by
 cases hr with
 | size h=>exact ⟨fun _=>rfl,fun h=>by omega,fun h=>by omega,fun h1 h2=>by omega⟩
 | seen h=>exact ⟨fun h=>by omega,fun h=>by omega,fun _=>h,fun _ _ h=>absurd rfl h⟩
 | bad h0 h1 h2=>
  refine⟨fun h=>by omega,fun h=>by omega,fun h=>by omega,fun _ _ _ _=>?_⟩
  unfold dw
  split
  ·rename_i hk
   have hk:s.cfg.keep=true:=hk
   rw [Jx hc h h1,hk]
   simp
  ·rename_i hk
   have hk: ¬ s.cfg.keep=true:=hk
   exact⟨fun hm=>absurd hm (Bl _ (lA _ hc h)),fun hm=>absurd hm.1 hk⟩
 | full h1 h2=>exact ⟨fun h=>by omega,fun _=>Bl _ (lA _ hc h),fun h=>by omega,fun _ _ _ h=>absurd rfl h⟩
end
section
variable {G:GS}
attribute [local irreducible] aj aC aG aM aQ vC aY aA
structure Pq (c:nD):Prop where
 h1:CH c.maxTxs
 h2:CH c.maxBytes
 h3:CH c.maxTx
 h4:CH c.cache
 h5:CH c.ttlB
 h6:CH c.ttlT
 h7:CH c.blkB
 h8:CH c.blkG
 h9:bl c.price
 h10:CH c.self
 h11:CH c.nodes
def fI (c:nD):Nat→Int
 | 0=>c.maxTxs
 | 1=>c.maxBytes
 | 2=>c.maxTx
 | 3=>c.cache
 | 4=>c.ttlB
 | 5=>c.ttlT
 | 6=>if c.keep then 1 else 0
 | 7=>c.blkB
 | 8=>c.blkG
 | 9=>0
 | 10=>c.self
 | _=>c.nodes
def loI:Nat→Int
 | 0 | 1 | 2 | 7 | 11=>1
 | 8=> -1
 | _=>0
def hiI:Nat→Int
 | 0=>512
 | 1 | 7=>1048576
 | 2=>4096
 | 3=>1024
 | 4 | 5=>1073741824
 | 6=>1
 | 8=>1125899906842624
 | 9=>0
 | 10=>7
 | _=>8
def qT (c:nD) (k:Nat):Bool:=decide (loI k≤fI c k) && decide (fI c k≤hiI k)
def nG (c:nD):Nat→Bool
 | 0=>true
 | k + 1=>nG c k && qT c k
def jx (c:nD):Int:=if nG c 12=true∧c.self < c.nodes then 0 else 1
theorem qU {k:Nat} (hk:k < 12):k=0∨k=1∨k=2∨k=3∨k=4∨k=5∨k=6∨k=7∨k=8∨k=9∨k=10∨k=11:=om
theorem vg {c:nD} {k:Nat} (h:qT c k=false): ∀{n:Nat},k < n→nG c n=false
 | 0,hn=>by omega
 | n + 1,hn=>by
  by_cases e:k=n
  ·subst e;simp [nG,h]
  ·simp [nG,vg h (show k < n by omega)]
theorem xd {c:nD} {k:Nat} (hk:k < 12) (h:qT c k=false):jx c=1:=by simp [jx,vg h hk]
theorem xe {c:nD} (h:nG c 12=true):jx c=if c.self < c.nodes then 0 else 1:=by simp [jx,h]
theorem rkeys_s:aD Tryz.prog G 82 [] (.sl 12 [.str [109,97,120,45,116,120,115], .str [109,97,120,45,98,121,116,101,115], .str [109,97,120,45,116,120,45,98,121,116,101,115], .str [99,97,99,104,101,45,115,105,122,101], .str [116,116,108,45,98,108,111,99,107,115], .str [116,116,108,45,116,105,109,101], .str [107,101,101,112,45,105,110,118,97,108,105,100], .str [98,108,111,99,107,45,98,121,116,101,115], .str [98,108,111,99,107,45,103,97,115], .str [112,114,105,99,101], .str [115,101,108,102], .str [110,111,100,101,115]]):=by
 refine bf seat Tryz.func82 2 ?_;refine ad ?_
 conv=>whnf
 exact⟨by decide,_,rfl,rfl⟩
theorem Ki {k:Nat} (hk:k < 12):aD Tryz.prog G 84 [.int .i64 k] (.int .i64 (loI k)):=by
 have hel:bK [.int .i64 1, .int .i64 1, .int .i64 1, .int .i64 0, .int .i64 0, .int .i64 0, .int .i64 0, .int .i64 1, .int .i64 (-1), .int .i64 0, .int .i64 0, .int .i64 1] (0 + k)=some (.int .i64 (loI k)):=by
  rcases qU hk with rfl | rfl | rfl | rfl | rfl | rfl | rfl | rfl | rfl | rfl | rfl | rfl <;> rfl
 have hel:=al.mk hel;have hix:=al.mk (cB hk);refine bf seat Tryz.func84 7 ?_;refine ad ?_;refine aw ?_;rfl
theorem Kj {k:Nat} (hk:k < 12):aD Tryz.prog G 85 [.int .i64 k] (.int .i64 (hiI k)):=by
 have hel:bK [.int .i64 512, .int .i64 1048576, .int .i64 4096, .int .i64 1024, .int .i64 1073741824, .int .i64 1073741824, .int .i64 1, .int .i64 1048576, .int .i64 1125899906842624, .int .i64 0, .int .i64 7, .int .i64 8] (0 + k)=some (.int .i64 (hiI k)):=by
  rcases qU hk with rfl | rfl | rfl | rfl | rfl | rfl | rfl | rfl | rfl | rfl | rfl | rfl <;> rfl
 have hel:=al.mk hel;have hix:=al.mk (cB hk);refine bf seat Tryz.func85 7 ?_;refine ad ?_;refine aw ?_;rfl
theorem Ol (c:nD) {k:Nat} (hk:k < 12):aD Tryz.prog G 83 [cfM c, .int .i64 k] (.int .i64 (fI c k)):=by
 have hel:bK [.int .i64 c.maxTxs, .int .i64 c.maxBytes, .int .i64 c.maxTx, .int .i64 c.cache, .int .i64 c.ttlB, .int .i64 c.ttlT, .int .i64 (if c.keep then 1 else 0), .int .i64 c.blkB, .int .i64 c.blkG, .int .i64 0, .int .i64 c.self, .int .i64 c.nodes] (0 + k)=some (.int .i64 (fI c k)):=by
  rcases qU hk with rfl | rfl | rfl | rfl | rfl | rfl | rfl | rfl | rfl | rfl | rfl | rfl <;> rfl
 generalize fI c k=x at *;obtain⟨c0,c1,c2,c3,c4,c5,c6,c7,c8,c9,c10,c11⟩:=c;have hix:=al.mk (cB hk);cases c6 <;>
 ·have hel:=al.mk hel;refine bf seat Tryz.func83 33 ?_;refine ad ?_;refine aw ?_;rfl
theorem Kk (c:nD):aD Tryz.prog G 43 [cfM c] (.int .i64 (jx c)):=by
 have cv: ∀k,k < 12→_:=fun k hk=>Ol (G:=G) c (k:=k) hk
 have hb: ∀k,k < 12→qT c k=false→_:=fun k hk=>xd (c:=c) hk
 have hend:=xe (c:=c);have hF: ∀k,qT c k=(decide (loI k≤fI c k) && decide (fI c k≤hiI k)):=fun _=>rfl
 have h9:qT c 9=true:=rfl;have hS: ∀k,nG c (k + 1)=(nG c k && qT c k):=fun _=>rfl
 have h0:nG c 0=true:=rfl;refine bf seat Tryz.func43 33 ?_;refine ad ?_;refine bL (rkeys_s) ?_;refine ar Nat (fun k=> [(6, .int .i64 k),(5, .int .i64 12),(1, .ptr 0 12 0 0 [])]) (fun _=> [(0,⟨24,12,false,0,[cfM c]⟩)]) 1 (fun k=>k≤12∧nG c k=true) (fun k=>12 - k) 0 ⟨om,h0⟩ (vm [(0,_)] []) ?_;rintro k ⟨hk,hok⟩;try dsimp only
 refine ad ?_;refine ae rfl ?_ ?_ <;> intro h
 ·have hk':k < 12:=by have:=ot h;omega
  have cv:=cv k hk';have cl:=Ki (G:=G) hk';have cg:=Kj (G:=G) hk';have hb:=hb k hk';have hF:=hF k;have hS:=hS k;rw [hok] at hS;generalize fI c k=x at *;generalize loI k=lo at *;generalize hiI k=hi at *;by_cases e9:k=9
  ·subst e9;refine ad ?_;exact⟨9 + 1,⟨om,by rw [hS,h9];rfl⟩,by show 12 - (9 + 1) < 12 - 9;omega,(by dsimp only;exact(vm [(0,_)] []))⟩
  ·refine ad ?_;refine ah rfl rfl ?_ rfl ?_ <;> intro h
   rotate_left
   ·exfalso;simp at h;omega
   refine ad ?_;refine bL (cv) ?_;refine bL (cl) ?_;refine ah rfl rfl ?_ rfl ?_ <;> intro h
   ·have h1:=oF h;refine ad ?_;refine bL (cv) ?_;refine bL (cg) ?_;refine ae rfl ?_ ?_ <;> intro h
    ·have h2:=ot h;rw [hb (by rw [hF];simp;omega)];refine ad ?_;refine aw ?_;rfl
    ·have h2:=oF h;refine ad ?_;exact⟨k + 1,⟨om,by rw [hS,hF];simp;omega⟩,by show 12 - (k + 1) < 12 - k;omega,(by dsimp only;exact(vm [(0,_)] []))⟩
   ·have h1:=ot h;rw [hb (by rw [hF];simp;omega)];refine ad ?_;refine aw ?_;rfl
 ·have hk':k=12:=by have:=oF h;omega
  subst hk';rw [hend hok];refine ad ?_;refine ae rfl ?_ ?_ <;> intro h
  ·have h:=ot h;rw [if_neg om];refine ad ?_;refine aw ?_;rfl
  ·have h:=oF h;rw [if_pos om];refine ad ?_;refine aw ?_;rfl
abbrev wM (a:Int×Bool):MV:= .st [.int .u64 a.1, .bool a.2]
def lessB (a b:Int×Bool):Bool:=if (a.2 || b.2)=true then a.2 && !b.2 else decide (a.1 < b.1)
theorem Kl (a b:Int×Bool):aD Tryz.prog G 119 [wM a,wM b] (.bool (lessB a b)):=by
 obtain⟨n,m⟩:=a;obtain⟨n',m'⟩:=b;cases m <;> cases m' <;>
 ·refine bf seat Tryz.func119 23 ?_;refine ad ?_;refine aw ?_;rfl
theorem pQ (n:Int) (h0:0≤n) (h1:n < 9223372036854775808):aD Tryz.prog G 117 [.int .i64 n] (wM (n,false)):=by
 refine bf seat Tryz.func117 6 ?_;refine ad ?_;refine aw ?_;rfl
def PL:Nat→List UInt8
 | 0=> [109,97,120,45,116,120,115]
 | 1=> [109,97,120,45,98,121,116,101,115]
 | 2=> [109,97,120,45,116,120,45,98,121,116,101,115]
 | 3=> [99,97,99,104,101,45,115,105,122,101]
 | 4=> [116,116,108,45,98,108,111,99,107,115]
 | 5=> [116,116,108,45,116,105,109,101]
 | 6=> [107,101,101,112,45,105,110,118,97,108,105,100]
 | 7=> [98,108,111,99,107,45,98,121,116,101,115]
 | 8=> [98,108,111,99,107,45,103,97,115]
 | 9=> [112,114,105,99,101]
 | 10=> [115,101,108,102]
 | _=> [110,111,100,101,115]
def Om (k:Nat):Int×Bool:=if loI k= -1 then(0,true) else(loI k,false)
def On:Nat→Int×Bool
 | 9=>(18446744073709551615,false)
 | k=>(hiI k,false)
def PM:Nat→Int×Bool
 | 0=>(100,false)
 | 1=>(65536,false)
 | 2=>(1024,false)
 | 3=>(200,false)
 | 7=>(32768,false)
 | 8=>(0,true)
 | 9 | 11=>(1,false)
 | _=>(0,false)
abbrev qV (k:Nat):MV:= .st [.str (PL k),wM (Om k),wM (On k),wM (PM k)]
abbrev Km:List MV:= [qV 0,qV 1,qV 2,qV 3,qV 4,qV 5,qV 6,qV 7,qV 8,qV 9,qV 10,qV 11]
def iT (a b v:Int×Bool):Bool:= !lessB v a && !lessB b v
theorem Oo:aD Tryz.prog G 77 [] (.arr 12 7 Km):=by
 have cn: ∀n:Nat,n < 9223372036854775808→aD Tryz.prog G 117 [.int .i64 n] (wM (n,false)):=fun n hn=>pQ (G:=G) n om om
 refine bf seat Tryz.func77 54 ?_;refine ad ?_;refine av [da 0,da 1,da 2,ag 3,da 4,da 5,da 6,ag 7,da 8,da 9,da 10,ag 11,da 12,da 13,da 14,ag 15,da 16,da 17,da 18,ag 19,da 20,da 21,da 22,ag 23,da 24,da 25,da 26,ag 27,da 28,da 29,da 30,ag 31,ag 32,da 33,ag 34,ag 35,da 36,ag 37,da 38,ag 39,da 40,da 41,da 42,ag 43,da 44,da 45,da 46,ag 47,ag 48,ag 49] ?_;refine ad ?_;refine du (cn 1 (by decide)) ?_;refine du (cn 512 (by decide)) ?_;refine du (cn 100 (by decide)) ?_;refine du (cn 1 (by decide)) ?_;refine du (cn 1048576 (by decide)) ?_;refine du (cn 65536 (by decide)) ?_;refine du (cn 1 (by decide)) ?_;refine du (cn 4096 (by decide)) ?_;refine du (cn 1024 (by decide)) ?_;refine du (cn 0 (by decide)) ?_;refine du (cn 1024 (by decide)) ?_;refine du (cn 200 (by decide)) ?_;refine du (cn 0 (by decide)) ?_;refine du (cn 1073741824 (by decide)) ?_;refine du (cn 0 (by decide)) ?_;refine du (cn 0 (by decide)) ?_;refine du (cn 1073741824 (by decide)) ?_;refine du (cn 0 (by decide)) ?_;refine du (cn 0 (by decide)) ?_;refine du (cn 1 (by decide)) ?_;refine du (cn 0 (by decide)) ?_;refine du (cn 1 (by decide)) ?_;refine du (cn 1048576 (by decide)) ?_;refine du (cn 32768 (by decide)) ?_;refine du (cn 1125899906842624 (by decide)) ?_;refine du (cn 0 (by decide)) ?_;refine du (cn 1 (by decide)) ?_;refine du (cn 0 (by decide)) ?_;refine du (cn 7 (by decide)) ?_;refine du (cn 0 (by decide)) ?_;refine du (cn 1 (by decide)) ?_;refine du (cn 8 (by decide)) ?_;refine du (cn 1 (by decide)) ?_;refine aw ?_;rfl
theorem Kn (nm:List UInt8) (a b d v:Int×Bool):aD Tryz.prog G 79 [.st [.str nm,wM a,wM b,wM d],wM v] (.bool (iT a b v)):=by
 have c1:=Kl (G:=G) v a;have c2:=Kl (G:=G) b v;unfold iT;generalize lessB v a=t1 at *;generalize lessB b v=t2 at *;refine bf seat Tryz.func79 17 ?_;refine ad ?_;refine yv (c1) ?_;cases t1
 ·refine ad ?_;refine bL (c2) ?_;refine aw ?_;rfl
 ·refine ad ?_;refine aw ?_;rfl
abbrev Nb (Z:MV):List MV:= [.ep Z 0 [0], .ep Z 1 [1], .ep Z 2 [2], .ep Z 3 [3], .ep Z 4 [4], .ep Z 5 [5], .nilp, .ep Z 7 [7], .ep Z 8 [8], .nilp, .ep Z 10 [10], .ep Z 11 [11]]
theorem Dp (Z:MV):aD Tryz.prog G 118 [.ep Z 0 []] (.arr 12 1 (Nb Z)):=by
 refine bf seat Tryz.func118 34 ?_;refine ad ?_;refine av [ag 0,ag 1,ag 2,ag 3,ag 4,ag 5,ag 6,ag 7,ag 8,ag 9,ag 10,ag 11,ag 12,ag 13,ag 14,ag 15,ag 16,ag 17,ag 18,ag 19,ag 20,ag 21,ag 22,ag 23,ag 24,ag 25,ag 26,ag 27,ag 28,ag 29,ag 30,ag 31] ?_;refine ad ?_;refine aw ?_;rfl
def vI (p:Int):(Int×Bool)×Bool:=if p < -1 then((0,false),false) else if p= -1 then((0,true),true) else((p,false),true)
def vW (c:nD):Nat→(Int×Bool)×Bool
 | 6=>(if c.keep then(1,false) else(0,false),true)
 | 9=>((c.price,false),true)
 | k=>vI (fI c k)
abbrev vM (v:(Int×Bool)×Bool):MV:= .tup [wM v.1, .bool v.2]
theorem jP (c:nD) {k:Nat} (i:Nat) (x:Int) (hx:CH x) (hk:db (Nb (cfM c)) 12 (k:Int)=some (.ep (cfM c) i [i])) (hi:fE (cfM c) [i] i=some (.int .i64 x)):aD Tryz.prog G 78 [cfM c, .int .i64 k] (vM (vI x)):=by
 unfold CH at hx;have ci:=Dp (G:=G) (cfM c);have hk:=al.mk hk;have hi:=al.mk hi;refine bf seat Tryz.func78 48 ?_;refine ad ?_;refine cG rfl (fun _ h=>h) rfl (aa ci) rfl [(0,1)] mm ⟨.inr ⟨rfl,b₅ 0,rfl,rfl,rfl,rfl⟩,trivial⟩ ?_;refine ad ?_;refine ae rfl ?_ ?_ <;> intro h
 ·have h:=ot h;unfold vI;rw [if_pos h];refine ad ?_;refine aw ?_;rfl
 have h:=oF h;refine ad ?_;refine ae rfl ?_ ?_ <;> intro h
 ·have h2:=eq_of_beq h;subst h2;refine ad ?_;refine aw ?_;rfl
 have h2:=ne_of_beq_false h;have cn:=pQ (G:=G) x om om;refine ad ?_;refine yv (cn) ?_;unfold vI;rw [if_neg ‹_›,if_neg h2];refine ad ?_;refine aw ?_;rfl
theorem Oq (c:nD):aD Tryz.prog G 78 [cfM c, .int .i64 (9:Nat)] (vM ((c.price,false),true)):=by
 have ci:=Dp (G:=G) (cfM c);refine bf seat Tryz.func78 48 ?_;refine ad ?_;refine cG rfl (fun _ h=>h) rfl (aa ci) rfl [(0,1)] mm ⟨.inr ⟨rfl,b₅ 0,rfl,rfl,rfl,rfl⟩,trivial⟩ ?_;refine ad ?_;refine aw ?_;rfl
theorem Ot (c:nD):aD Tryz.prog G 78 [cfM c, .int .i64 (6:Nat)] (vM (if c.keep then(1,false) else(0,false),true)):=by
 have ci:=Dp (G:=G) (cfM c);have c0:=pQ (G:=G) 0 (by decide) (by decide);have c1:=pQ (G:=G) 1 (by decide) (by decide);obtain⟨d0,d1,d2,d3,d4,d5,d6,d7,d8,d9,d10,d11⟩:=c;cases d6
 ·refine bf seat Tryz.func78 48 ?_;refine ad ?_;refine cG rfl (fun _ h=>h) rfl (aa ci) rfl [(0,1)] mm ⟨.inr ⟨rfl,b₅ 0,rfl,rfl,rfl,rfl⟩,trivial⟩ ?_;refine ad ?_;refine bL (c0) ?_;refine aw ?_;rfl
 ·refine bf seat Tryz.func78 48 ?_;refine ad ?_;refine cG rfl (fun _ h=>h) rfl (aa ci) rfl [(0,1)] mm ⟨.inr ⟨rfl,b₅ 0,rfl,rfl,rfl,rfl⟩,trivial⟩ ?_;refine ad ?_;refine bL (c1) ?_;refine aw ?_;rfl
theorem Mu (c:nD) (hc:Pq c) {k:Nat} (hk:k < 12):aD Tryz.prog G 78 [cfM c, .int .i64 k] (vM (vW c k)):=by
 obtain⟨h1,h2,h3,h4,h5,h6,h7,h8,h9,h10,h11⟩:=hc;rcases qU hk with rfl | rfl | rfl | rfl | rfl | rfl | rfl | rfl | rfl | rfl | rfl | rfl
 ·exact jP c 0 _ h1 rfl rfl
 ·exact jP c 1 _ h2 rfl rfl
 ·exact jP c 2 _ h3 rfl rfl
 ·exact jP c 3 _ h4 rfl rfl
 ·exact jP c 4 _ h5 rfl rfl
 ·exact jP c 5 _ h6 rfl rfl
 ·exact Ot c
 ·exact jP c 7 _ h7 rfl rfl
 ·exact jP c 8 _ h8 rfl rfl
 ·exact Oq c
 ·exact jP c 10 _ h10 rfl rfl
 ·exact jP c 11 _ h11 rfl rfl
def QK (c:nD) (k:Nat):Bool:=(vW c k).2 && iT (Om k) (On k) (vW c k).1
theorem Mv {p lo hi:Int} {b:Bool} (h1:0≤lo) (h2:b=true→lo=0) (h3:0≤hi):((vI p).2 && iT (lo,b) (hi,false) (vI p).1)=(decide ((if b then -1 else lo)≤p) && decide (p≤hi)):=by
 unfold vI;by_cases hp:p < -1
 ·rw [if_pos hp];cases b <;> simp <;> omega
 ·rw [if_neg hp];by_cases hp2:p= -1
  ·rw [if_pos hp2];subst hp2;cases b <;> simp [iT,lessB] <;> omega
  ·rw [if_neg hp2];cases b
   ·simp [iT,lessB,← decide_not,Int.not_lt]
   ·have h4: -1≤p:=om;simp [iT,lessB,h4,← decide_not,Int.not_lt]
theorem Ou {c:nD} (hc:Pq c) {k:Nat} (hk:k < 12):QK c k=qT c k:=by
 have hp:=hc.h9;unfold bl at hp;rcases qU hk with rfl | rfl | rfl | rfl | rfl | rfl | rfl | rfl | rfl | rfl | rfl | rfl
 case inr.inr.inr.inr.inr.inr.inl=>show (true && iT _ _ (if c.keep then(1,false) else(0,false)))=(decide (0≤if c.keep then(1:Int) else 0) && decide ((if c.keep then(1:Int) else 0)≤1));cases c.keep <;> rfl
 case inr.inr.inr.inr.inr.inr.inr.inr.inr.inl=>
  show(true && iT (0,false) (18446744073709551615,false) (c.price,false))=true
  simp [iT,lessB];omega
 all_goals exact Mv (by decide) (by decide) (by decide)
theorem Ko {k:Nat} (hk:k < 12):db Km 12 (k:Int)=some (qV k):=by
 rcases qU hk with rfl | rfl | rfl | rfl | rfl | rfl | rfl | rfl | rfl | rfl | rfl | rfl <;> rfl
theorem Kp (c:nD) (hc:Pq c):aD Tryz.prog G 41 [cfM c] (.int .i64 (jx c)):=by
 have cr:=Oo (G:=G);have cv: ∀k,k < 12→_:=fun k hk=>Mu (G:=G) c hc (k:=k) hk
 have hb: ∀k,k < 12→qT c k=false→_:=fun k hk=>xd (c:=c) hk
 have hend:=xe (c:=c);have hF: ∀k,k < 12→qT c k=((vW c k).2 && iT (Om k) (On k) (vW c k).1):=fun k hk=>(Ou hc hk).symm
 have hS: ∀k,nG c (k + 1)=(nG c k && qT c k):=fun _=>rfl
 have h0:nG c 0=true:=rfl;have hat:=fun k (hk:k < 12)=>Ko hk
 generalize Km=R at *;refine bf seat Tryz.func41 32 ?_;refine ad ?_;refine bL (cr) ?_;refine ar Nat (fun k=> [(8, .int .i64 k),(7, .arr 12 7 R),(1, .ptr 0 12 0 0 [])]) (fun _=> [(0,⟨24,12,false,0,[cfM c]⟩)]) 1 (fun k=>k≤12∧nG c k=true) (fun k=>12 - k) 0 ⟨om,h0⟩ (vm [(0,_)] []) ?_;rintro k ⟨hk,hok⟩;try dsimp only
 refine ad ?_;refine ae rfl ?_ ?_ <;> intro h
 ·have hk':k < 12:=by have:=ot h;omega
  have cv:=cv k hk';have hb:=hb k hk';have hF:=hF k hk';have hS:=hS k;have hel:al (db R 12 (k:Int)) (.st [.str (PL k),wM (Om k),wM (On k),wM (PM k)]):=al.mk (hat k hk');have cw:=fun v=>Kn (G:=G) (PL k) (Om k) (On k) (PM k) v
  rw [hok] at hS;generalize iT (Om k) (On k)=W at *;generalize PL k=nm at *;generalize Om k=lo at *;generalize On k=hi at *;generalize PM k=df at *;generalize vW c k=v at *;obtain⟨⟨v1,v2⟩,v3⟩:=v;obtain⟨l1,l2⟩:=lo;obtain⟨i1,i2⟩:=hi;obtain⟨d1,d2⟩:=df;have cw:=cw (v1,v2);dsimp only at *;generalize W (v1,v2)=t at *;refine ad ?_;refine yv (cv) ?_;cases v3
  ·refine ad ?_;rw [hb (by simp [hF])];refine aw ?_;rfl
  ·refine ad ?_;refine yv (cw) ?_;cases t
   ·refine ad ?_;rw [hb (by simp [hF])];refine aw ?_;rfl
   ·refine ad ?_;exact⟨k + 1,⟨om,by rw [hS,hF];rfl⟩,by show 12 - (k + 1) < 12 - k;omega,(by dsimp only;exact(vm [(0,_)] []))⟩
 ·have hk':k=12:=by have:=oF h;omega
  subst hk';rw [hend hok];refine ad ?_;refine ae rfl ?_ ?_ <;> intro h
  ·have h:=ot h;rw [if_neg om];refine ad ?_;refine aw ?_;rfl
  ·have h:=oF h;rw [if_pos om];refine ad ?_;refine aw ?_;rfl
theorem Kq {c:nD} (h:qC c):Pq c:=by
 obtain⟨h1,h2,h3,h4,h5,h6,h7,h8,h9,h10,h11⟩:=h;refine⟨?_,?_,?_,?_,?_,?_,?_,?_,h9,?_,?_⟩ <;> (unfold CH;omega)
theorem Dq {c:nD} (h:qC c):jx c=0:=by
 obtain⟨h1,h2,h3,h4,h5,h6,h7,h8,h9,h10,h11⟩:=h;have k6:qT c 6=true:=by
  show(decide (0≤if c.keep then(1:Int) else 0) && decide ((if c.keep then(1:Int) else 0)≤1))=true
  cases c.keep <;> rfl
 have hk:nG c 12=true:=by
  simp only [nG,k6];simp [qT,loI,hiI,fI];omega
 exact if_pos ⟨hk,h10.2⟩
end
end Go.Proofs.YthdhlcicpcnbhaaGreatDoor
namespace Go.Proofs
open Go.Shelf
def Tryz.sortAcc_ren:Go.Shelf.Ren:=⟨fun | 6=>122 | 15=>154 | 14=>153 | 28=>187 | 29=>188 | 20=>179 | 21=>180 | 22=>181 | 23=>182 | 24=>183 | 25=>184 | 26=>185 | 27=>186 | 46=>224 | 47=>225 | 48=>226 | 49=>227 | 50=>228 | 57=>245 | n=>n,fun | 22=>25 | 24=>87 | 25=>178 | 3=>3 | 39=>160 | 0=>0 | 53=>118 | 55=>22 | 4=>4 | 46=>241 | 45=>240 | 50=>210 | 5=>5 | 9=>9 | 66=>270 | 70=>165 | 76=>286 | 77=>287 | n=>n,fun | n=>n⟩
theorem Tryz.sortAcc:Go.Proofs.SlLaysF0.n6 Tryz.prog Tryz.sortAcc_ren:={
 mixed:=by kernel_rfl
 f6:=⟨Tryz.f122.name,by decide,Tryz.func122.trans (congrArg some (by kernel_rfl))⟩
 f14:=⟨Tryz.f153.name,by decide,Tryz.func153.trans (congrArg some (by kernel_rfl))⟩
 f15:=Tryz.func154.trans (congrArg some (by kernel_rfl))
 f20:=⟨Tryz.f179.name,by decide,Tryz.func179.trans (congrArg some (by kernel_rfl))⟩
 f21:=⟨Tryz.f180.name,by decide,Tryz.func180.trans (congrArg some (by kernel_rfl))⟩
 f22:=⟨Tryz.f181.name,by decide,Tryz.func181.trans (congrArg some (by kernel_rfl))⟩
 f23:=⟨Tryz.f182.name,by decide,Tryz.func182.trans (congrArg some (by kernel_rfl))⟩
 f24:=⟨Tryz.f183.name,by decide,Tryz.func183.trans (congrArg some (by kernel_rfl))⟩
 f25:=⟨Tryz.f184.name,by decide,Tryz.func184.trans (congrArg some (by kernel_rfl))⟩
 f26:=⟨Tryz.f185.name,by decide,Tryz.func185.trans (congrArg some (by kernel_rfl))⟩
 f27:=⟨Tryz.f186.name,by decide,Tryz.func186.trans (congrArg some (by kernel_rfl))⟩
 f28:=Tryz.func187.trans (congrArg some (by kernel_rfl))
 f29:=Tryz.func188.trans (congrArg some (by kernel_rfl))
 f46:=⟨Tryz.f224.name,by decide,Tryz.func224.trans (congrArg some (by kernel_rfl))⟩
 f47:=Tryz.func225.trans (congrArg some (by kernel_rfl))
 f48:=Tryz.func226.trans (congrArg some (by kernel_rfl))
 f49:=⟨Tryz.f227.name,by decide,Tryz.func227.trans (congrArg some (by kernel_rfl))⟩
 f50:=⟨Tryz.f228.name,by decide,Tryz.func228.trans (congrArg some (by kernel_rfl))⟩
 f57:=⟨Tryz.f245.name,by decide,Tryz.func245.trans (congrArg some (by kernel_rfl))⟩
 t0:=Tryz.underlying0
 a0:=Tryz.isAgg0
 z0:=Tryz.sizeOf0
 v0:=Tryz.zeroValue0
 t3:=Tryz.underlying3
 a3:=Tryz.isAgg3
 z3:=Tryz.sizeOf3
 v3:=Tryz.zeroValue3
 t4:=Tryz.underlying4
 a4:=Tryz.isAgg4
 z4:=Tryz.sizeOf4
 v4:=Tryz.zeroValue4
 t5:=Tryz.underlying5
 a5:=Tryz.isAgg5
 z5:=Tryz.sizeOf5
 v5:=Tryz.zeroValue5
 t9:=Tryz.underlying9
 a9:=Tryz.isAgg9
 z9:=Tryz.sizeOf9
 v9:=Tryz.zeroValue9
 t22:=Tryz.underlying25
 a22:=Tryz.isAgg25
 z22:=Tryz.sizeOf25
 v22:=Tryz.zeroValue25
 t25:=Tryz.underlying178
 a25:=Tryz.isAgg178
 z25:=Tryz.sizeOf178
 v25:=Tryz.zeroValue178
 t39:=Tryz.underlying160
 a39:=Tryz.isAgg160
 z39:=Tryz.sizeOf160
 v39:=Tryz.zeroValue160
 t45:=Tryz.underlying240
 a45:=Tryz.isAgg240
 z45:=Tryz.sizeOf240
 v45:=Tryz.zeroValue240
 t46:=Tryz.underlying241
 a46:=Tryz.isAgg241
 z46:=Tryz.sizeOf241
 v46:=Tryz.zeroValue241
 t50:=Tryz.underlying210
 a50:=Tryz.isAgg210
 z50:=Tryz.sizeOf210
 v50:=Tryz.zeroValue210
 t53:=Tryz.underlying118
 a53:=Tryz.isAgg118
 z53:=Tryz.sizeOf118
 v53:=Tryz.zeroValue118
 t55:=Tryz.underlying22
 a55:=Tryz.isAgg22
 z55:=Tryz.sizeOf22
 v55:=Tryz.zeroValue22
 t66:=Tryz.underlying270
 a66:=Tryz.isAgg270
 z66:=Tryz.sizeOf270
 v66:=Tryz.zeroValue270
 t70:=Tryz.underlying165
 a70:=Tryz.isAgg165
 z70:=Tryz.sizeOf165
 v70:=Tryz.zeroValue165
 t76:=Tryz.underlying286
 a76:=Tryz.isAgg286
 z76:=Tryz.sizeOf286
 v76:=Tryz.zeroValue286
 t77:=Tryz.underlying287
 a77:=Tryz.isAgg287
 z77:=Tryz.sizeOf287
 v77:=Tryz.zeroValue287 }
end Go.Proofs
namespace Go.Proofs.YthdhlcicpcnbhaaGreatDoor
open Go.RowKit
section
open Go.RowKit Go.Lib Go.Shelf Go.Sort
instance:Inhabited aW:=⟨ac0⟩
def ja (a:aW):List Value:= [.string ⟨a.name.toArray⟩, .int .u64 a.bal, .int .u64 a.seq]
theorem qW (x:ByteArray) (w:World):Calls Tryz.prog 155 #[.string x] w fun e w'=>e= .returned (.bool false)∧w'=w:=by
 go_enter Tryz.func155,Tryz.ntmps155
 go_wp2
 go_ret
 exact⟨sm,rfl⟩
theorem Bz (x y:List UInt8) (w:World):Calls Tryz.prog 124 #[.string ⟨x.toArray⟩, .string ⟨y.toArray⟩] w fun e w'=>e= .returned (.int .i64 (jv x y))∧w'=w:=by
 have ex:(⟨x.toArray⟩:ByteArray).toList=x:=by rw [Lib.toList_data]
 have ey:(⟨y.toArray⟩:ByteArray).toList=y:=by rw [Lib.toList_data]
 have hgt: ∀w,(binOp .gtr 9 (.string ⟨x.toArray⟩) (.string ⟨y.toArray⟩)).run Tryz.prog w= .ok (.bool (!(Op.bytesLess x y || x == y))) w:=fun w=>by simp [binOp,Op.stringOp,ex,ey]
 unfold jv;by_cases h1:Op.bytesLess x y=true
 ·rw [if_pos h1]
  go_enter Tryz.func124,Tryz.ntmps124
  go_wp2_with (go_at_call 155;refine(qW _ _).mono ?_;rintro e w' ⟨rfl,rfl⟩)
  go_ret
  exact⟨rfl,rfl⟩
 ·rw [if_neg h1];have h1:Op.bytesLess x y=false:=by simpa using h1
  by_cases h2:x=y
  ·subst h2;rw [h1,beq_self_eq_true,Bool.or_true,Bool.not_true] at hgt;rw [if_neg sm]
   go_enter Tryz.func124,Tryz.ntmps124
   go_wp2_with (first | (go_at_call 155;refine(qW _ _).mono ?_;rintro e w' ⟨rfl,rfl⟩) | simp only [hgt,Result.andThen_ok])
   go_ret
   exact⟨rfl,rfl⟩
  ·have h3:(x == y)=false:=beq_eq_false_iff_ne.2 h2;rw [h1,h3,Bool.or_false,Bool.not_false] at hgt;rw [if_pos (by simp [h1,h2])]
   go_enter Tryz.func124,Tryz.ntmps124
   go_wp2_with (first | (go_at_call 155;refine(qW _ _).mono ?_;rintro e w' ⟨rfl,rfl⟩) | simp only [hgt,Result.andThen_ok])
   go_ret
   exact⟨rfl,rfl⟩
theorem Kr (a b:aW) (W:World):Calls Tryz.prog 123 #[.agg (ja a).toArray, .agg (ja b).toArray] W fun e w'=>e= .returned (.int .i64 (jv a.name b.name))∧∃q os',w'=grow (W.drewN q) os':=by
 have hcon:=fun W'=>Bz a.name b.name W'
 unfold ja;generalize jv a.name b.name=r at hcon ⊢
 go_enter Tryz.func123,Tryz.ntmps123
 go_wp2_with (go_at_call 124;refine(hcon _).mono ?_;rintro e w' ⟨rfl,rfl⟩)
 go_ret
 exact⟨rfl,0,_,by rw [alloc_eq_grow,alloc_eq_grow,grow_grow];rfl⟩
end
end Go.Proofs.YthdhlcicpcnbhaaGreatDoor
