/- Parts of a proof, one behind the other: J8, J9, JA, JB, JC, JD, CV, Shelf2, WU, WV, WX, WY, WZ, Z2, XA. -/
import Derived.Test.YthdhlcicpcnbhaaGreatDoorW10
open List renaming length_eq_zero_iff → a₀,getElem?_append_right → a₁,length_append → a₃,append_nil → a₄,length_map → a₅,drop_drop → a₇,pairwise_append → a₈,getElem?_append_left → a₉,append_assoc → b₀,getElem?_eq_none → b₃,nil_append → b₄,map_map → b₅,replicate → b₆,drop_sublist → b₈,getElem?_eq_some_iff → b₉,take_length → c₀,length_take → c₁,take_append_drop → c₂,mem_map → c₅,take_sublist → c₇,ext_getElem? → c₈,getElem_mem → c₉,map_append → d₀
open Nat renaming le_refl → a₂,zero_le → a₆,lt_succ_self → b₂,eq_zero_or_pos → b₇,zero_add → c₃,lt_of_lt_of_le → c₆
open Prod.mk renaming injEq → b₁
open And renaming intro → c₄
set_option maxRecDepth 20000
set_option maxHeartbeats 16000000
set_option linter.unusedVariables false
set_option linter.unusedSimpArgs false
namespace Go.Proofs.YthdhlcicpcnbhaaGreatDoor
open Go.RowKit
section
variable {G:GS}
def Ew (G:GS) (n a m b mid st:Nat) (T0 T3:List TE):Prop:= ∃T1 T2:List TE,
 (st < m→m < mid + m - st→aH Tryz.prog G 243 [dL n, .int .i64 st, .int .i64 m, .int .i64 ((mid + m - st:Nat):Int)] (aR n T0) 2 (.tup []) (aR n T1) 2)∧(¬ (st < m∧m < mid + m - st)→T0=T1)∧
 (a < st→st < mid→aH Tryz.prog G 216 [dL n, .int .i64 a, .int .i64 st, .int .i64 mid] (aR n T1) 2 (.tup []) (aR n T2) 2)∧(¬ (a < st∧st < mid)→T1=T2)∧
 (mid < mid + m - st→mid + m - st < b→aH Tryz.prog G 216 [dL n, .int .i64 mid, .int .i64 ((mid + m - st:Nat):Int), .int .i64 b] (aR n T2) 2 (.tup []) (aR n T3) 2)∧(¬ (mid < mid + m - st∧mid + m - st < b)→T2=T3)
theorem Jo (n:Nat) (hN:n < 1152921504606846976) (P A B S:List TE) (a m b mid st:Nat) (hP:P.length=a) (hm:a + A.length=m) (hb:m + B.length=b) (hS:b + S.length=n) (hA:gk A) (hB:gk B) (ht: ∀x∈A,∀y∈B,x.2 < y.2) (hn:dz (A ++ B))
  (k1:a≤st) (k2:st≤m) (k3:st≤mid) (k4:mid≤st + B.length) (g1:0 < st - a→mid - st < B.length→gB A B (st - 1 - a) (mid - 1 - (st - 1))=false) (g2:st - a < A.length→0 < mid - st→gB A B (st - a) (mid - 1 - st)=true)
  (ih: ∀(P A B S:List TE) (a' m' b':Nat),b' - a' < b - a→P.length=a'→a' + A.length=m'→m' + B.length=b'→b' + S.length=n→0 < A.length→0 < B.length→gk A→gk B→(∀x∈A,∀y∈B,x.2 < y.2)→dz (A ++ B)→
   aH Tryz.prog G 216 [dL n, .int .i64 a', .int .i64 m', .int .i64 b'] (aR n (P ++ (A ++ (B ++ S)))) 2 (.tup []) (aR n (P ++ (eu (A ++ B) ++ S))) 2)
  (hmid:mid < b) (hmid2:a < mid) :
  Ew G n a m b mid st (P ++ (A ++ (B ++ S))) (P ++ (eu (A ++ B) ++ S)):=by
 obtain⟨u,hu⟩: ∃u,u=st - a:=⟨_,rfl⟩
 obtain⟨v,hv⟩: ∃v,v=mid - st:=⟨_,rfl⟩
 have hs:=LP hA hB ht hn (u:=u) (v:=v) om om (fun h1 h2=>by have:=g1 om om;rwa [show st - 1 - a=u - 1 by omega,show mid - 1 - (st - 1)=v by omega] at this) (fun h1 h2=>by have:=g2 om om;rwa [show st - a=u by omega,show mid - 1 - st=v - 1 by omega] at this)
 obtain⟨A1,A2,eA,l1⟩:=LK A (k:=u) om
 obtain⟨B1,B2,eB,l2⟩:=LK B (k:=v) om
 have tA:A.take u=A1:=by rw [eA,← l1];simp
 have dA:A.drop u=A2:=by rw [eA,← l1];simp
 have tB:B.take v=B1:=by rw [eB,← l2];simp
 have dB:B.drop v=B2:=by rw [eB,← l2];simp
 rw [tA,dA,tB,dB] at hs
 have la:A1.length + A2.length=A.length:=by rw [eA];simp
 have lb:B1.length + B2.length=B.length:=by rw [eB];simp
 rw [hs]
 have hA':=hA
 have hB':=hB
 have hn':=hn
 rw [eA] at hA'
 rw [eB] at hB'
 rw [eA,eB] at hn'
 obtain⟨sA1,sA2,_⟩:=gL.1 hA'
 obtain⟨sB1,sB2,_⟩:=gL.1 hB'
 have hp:=wX A1 A2 B1 B2
 have hn2:dz ((A1 ++ B1) ++ (A2 ++ B2)):=hn'.perm hp.symm
 obtain⟨n1,n2,_⟩:=a₈.1 hn2
 have t1: ∀x∈A1,∀y∈B1,x.2 < y.2:=fun x hx y hy=>ht x (by rw [eA];simp [hx]) y (by rw [eB];simp [hy])
 have t2: ∀x∈A2,∀y∈B2,x.2 < y.2:=fun x hx y hy=>ht x (by rw [eA];simp [hx]) y (by rw [eB];simp [hy])
 have p1:(eu (A1 ++ B1)).length=A1.length + B1.length:=by rw [(bo _).length_eq,a₃]
 clear tA dA tB dB hs g1 g2
 subst eA eB
 refine⟨P ++ ((A1 ++ B1) ++ ((A2 ++ B2) ++ S)),P ++ (eu (A1 ++ B1) ++ ((A2 ++ B2) ++ S)),fun h1 h2=>?_,fun h=>?_,fun h1 h2=>?_,fun h=>?_,fun h1 h2=>?_,fun h=>?_⟩
 ·have:=Jm (G:=G) n om (P ++ A1) A2 B1 (B2 ++ S) st m (mid + m - st) (by simp;omega) om om (by simp at hS ⊢;omega) om om
  simpa using this
 ·have:A2= [] ∨B1= [] :=by
   rcases b₇ A2.length with h3 | h3
   ·exact .inl (a₀.1 h3)
   ·exact .inr (a₀.1 om)
  rcases this with rfl | rfl <;> simp
 ·have:=ih P A1 B1 ((A2 ++ B2) ++ S) a st mid om hP om om (by simp at *;omega) om om sA1 sB1 t1 n1
  simpa using this
 ·have:A1= [] ∨B1= [] :=by
   rcases b₇ A1.length with h3 | h3
   ·exact .inl (a₀.1 h3)
   ·exact .inr (a₀.1 om)
  rcases this with rfl | rfl
  ·simp only [b₄] at *;rw [yH sB1 n1]
  ·simp only [a₄] at *;rw [yH sA1 n1]
 ·have:=ih (P ++ eu (A1 ++ B1)) A2 B2 S mid (mid + m - st) b om (by simp [p1];omega) om (by simp at hb;omega) hS om (by simp at hb;omega) sA2 sB2 t2 n2
  simpa using this
 ·have:A2= [] ∨B2= [] :=by
   rcases b₇ A2.length with h3 | h3
   ·exact .inl (a₀.1 h3)
   ·exact .inr (a₀.1 (by simp at hb;omega))
  rcases this with rfl | rfl
  ·simp only [b₄] at *;rw [yH sB2 n2];simp
  ·simp only [a₄] at *;rw [yH sA2 n2];simp
theorem Mp (n:Nat) (hN:n < 1152921504606846976): ∀(s:Nat) (P A B S:List TE) (a m b:Nat),b - a≤s→P.length=a→a + A.length=m→m + B.length=b→b + S.length=n→0 < A.length→0 < B.length→gk A→gk B→(∀x∈A,∀y∈B,x.2 < y.2)→dz (A ++ B)→
  aH Tryz.prog G 216 [dL n, .int .i64 a, .int .i64 m, .int .i64 b] (aR n (P ++ (A ++ (B ++ S)))) 2 (.tup []) (aR n (P ++ (eu (A ++ B) ++ S))) 2:=by
 intro s
 induction s with
 | zero=>intro P A B S a m b h1 h2 h3 h4 h5 h6 h7;omega
 | succ s ihs=>
  intro P A B S a m b hs hP hm hb hS hA0 hB0 hA hB ht hn
  have ih: ∀(P A B S:List TE) (a' m' b':Nat),b' - a' < b - a→P.length=a'→a' + A.length=m'→m' + B.length=b'→b' + S.length=n→0 < A.length→0 < B.length→gk A→gk B→(∀x∈A,∀y∈B,x.2 < y.2)→dz (A ++ B)→
    aH Tryz.prog G 216 [dL n, .int .i64 a', .int .i64 m', .int .i64 b'] (aR n (P ++ (A ++ (B ++ S)))) 2 (.tup []) (aR n (P ++ (eu (A ++ B) ++ S))) 2:=fun P A B S a' m' b' h=>ihs P A B S a' m' b' om
  by_cases h1:A.length=1
  ·match A,h1 with
   | [x],_=>
    have:=NB (G:=G) n hN P B S x a b hP (by simp at hm;omega) hS hB (fun y hy=>ht x sm y hy) (a₈.1 hn).2.1
    rw [show a + 1=m by simpa using hm] at this
    simpa using this
  by_cases h2:B.length=1
  ·match B,h2 with
   | [y],_=>
    have:=NC (G:=G) n hN P A S y a m hP hm (by simp at hb;omega) h1 hA (fun z hz=>ht z hz y sm) (a₈.1 hn).1
    rw [show m + 1=b by simpa using hb] at this
    simpa using this
  obtain⟨mid,hmid⟩: ∃mid,mid=(a + b) / 2:=⟨_,rfl⟩
  have hrest: ∀st,a≤st→st≤m→st≤mid→mid≤st + B.length→(0 < st - a→mid - st < B.length→gB A B (st - 1 - a) (mid - 1 - (st - 1))=false)→(st - a < A.length→0 < mid - st→gB A B (st - a) (mid - 1 - st)=true)→Ew G n a m b mid st (P ++ (A ++ (B ++ S))) (P ++ (eu (A ++ B) ++ S)):=
   fun st k1 k2 k3 k4 g1 g2=>Jo n hN P A B S a m b mid st hP hm hb hS hA hB ht hn k1 k2 k3 k4 g1 g2 ih om om
  have hlen:(P ++ (A ++ (B ++ S))).length=n:=by simp;omega
  have hTx: ∀{k:Nat} {x:TE},A[k]? =some x→(P ++ (A ++ (B ++ S)))[a + k]? =some x:=fun {k x} h=>by
   rw [a₁ om,show a + k - P.length=k by omega,a₉ (b₉.1 h).1];exact h
  have hTy: ∀{k:Nat} {y:TE},B[k]? =some y→(P ++ (A ++ (B ++ S)))[m + k]? =some y:=fun {k y} h=>by
   rw [a₁ om,a₁ om,show m + k - P.length - A.length=k by omega,a₉ (b₉.1 h).1];exact h
  clear ih ihs
  generalize hT0:P ++ (A ++ (B ++ S))=T0 at *
  generalize hT3:P ++ (eu (A ++ B) ++ S)=T3 at *
  clear hT0 hT3
  refine bR seat Tryz.func216 177 ?_
  refine ae ?_
  refine ad rfl (fun hd=>?_) (fun hd=>?_)
  ·exfalso
   have:=ot hd
   omega
  refine ae ?_
  refine ad rfl (fun hd=>?_) (fun hd=>?_)
  ·exfalso
   have:=ot hd
   omega
  clear hd
  have k2:=aT.mk (uP a b)
  refine ae ?_
  refine ad rfl (fun hd=>?_) (fun hd=>?_)
  ·have hgt:=ot hd
   have hgt:mid < m:=om
   obtain⟨lo,hlo⟩: ∃lo,lo=mid + m - b:=⟨_,rfl⟩
   obtain⟨hi,hhi⟩: ∃hi,hi=mid:=⟨_,rfl⟩
   refine ae ?_
   refine ar (Nat×Nat) (fun q=> [(19, .int .i64 q.2),(18, .int .i64 q.1),(20, .int .i64 ((mid:Int) + m - 1)),(17, .int .i64 ((mid:Int) + m)),(16, .int .i64 mid),(4, .ptr 2 2 0 0 []),(3, .int .i64 b),(2, .int .i64 m),(1, .int .i64 a)]) (fun q=>aR n T0 ++ [(2,⟨229,2,false,0,[dL n]⟩)]) 3
    (fun q=>lo≤q.1∧q.1≤q.2∧q.2≤hi∧(∀c,lo≤c→c < q.1→gB A B (c - a) (mid - 1 - c)=false)∧(∀c,q.2≤c→c < hi→gB A B (c - a) (mid - 1 - c)=true)) (fun q=>q.2 - q.1) (lo,hi) ⟨a₂ _,by omega,a₂ _,fun c h1 h2=>absurd h2 (by show ¬ c < lo;omega),fun c h1 h2=>absurd h2 (by have h1:hi≤c:=h1;omega)⟩ (by(try dsimp only);exact vm [(2,_)] [] (h2:=by exact nk)) ?_
   rintro⟨st,r⟩ ⟨i1,i2,i3,i4,i5⟩
   try dsimp only
   dsimp only at i1 i2 i3 i4 i5
   refine ae ?_
   refine ad rfl (fun hd=>?_) (fun hd=>?_)
   ·have hlt:st < r:=by have:=ot hd;omega
    obtain⟨c,hc⟩: ∃c,c=(st + r) / 2:=⟨_,rfl⟩
    obtain⟨x,hx⟩:=dN (l:=A) (i:=c - a) om
    obtain⟨y,hy⟩:=dN (l:=B) (i:=mid - 1 - c) om
    have hless:=pH (G:=G) n T0 hlen (m + (mid - 1 - c)) c (hTy hy) (by have:=hTx hx;rwa [show a + (c - a)=c by omega] at this)
    have hg:=wW hx hy
    have k2:=aT.mk (uP st r)
    refine ae ?_
    refine yc (hless) [(0,0),(1,1)] ?_
    refine ae ?_
    refine ad rfl (fun hb=>?_) (fun hb=>?_)
    ·have hb:ee y.1 x.1=false:=by simpa using hb
     refine ae ?_
     refine⟨(c + 1,r),⟨by show lo≤c + 1;omega,by show c + 1≤r;omega,i3,fun k h1 h2=>?_,i5⟩,by show r - (c + 1) < r - st;omega,(by(try dsimp only);exact vm [(2,_)] [] (h2:=by exact nk))⟩
     have h2:k < c + 1:=h2
     cases hq:gB A B (k - a) (mid - 1 - k) with
     | false=>rfl
     | true=>
      have:=r7 hA hB ht (u':=c - a) (v':=mid - 1 - c) om om om om hq
      rw [hg,hb] at this
      cases this
    ·have hb:ee y.1 x.1=true:=by simpa using hb
     refine ae ?_
     refine⟨(st,c),⟨i1,by show st≤c;omega,by show c≤hi;omega,i4,fun k h1 h2=>?_⟩,by show c - st < r - st;omega,(by(try dsimp only);exact vm [(2,_)] [] (h2:=by exact nk))⟩
     have h1:c≤k:=h1
     exact r7 hA hB ht (u:=c - a) (v:=mid - 1 - c) om om om om (by rw [hg];exact hb)
   ·have hlt:st=r:=by have:=oF hd;omega
    subst hlt
    obtain⟨T1,T2,R1,N1,R2,N2,R3,N3⟩:=hrest st om om om om (fun h1 h2=>i4 (st - 1) om om) (fun h1 h2=>i5 st (a₂ _) om)
    refine ae ?_
    refine ah rfl rfl (fun g1=>?_) rfl (fun g1=>?_)
    ·have g1:=ot g1
     refine ae ?_
     refine ad rfl (fun d1=>?_) (fun d1=>?_)
     ·have d1:=ot d1
      refine ae ?_
      refine yc (R1 om om) [(0,0),(1,1)] ?_
      try (exfalso;omega)
      all_goals
       refine ae ?_
       refine ah rfl rfl (fun g2=>?_) rfl (fun g2=>?_)
       ·have g2:=ot g2
        refine ae ?_
        refine ad rfl (fun d2=>?_) (fun d2=>?_)
        ·have d2:=ot d2
         refine ae ?_
         refine yc (R2 (by omega) (by omega)) [(0,0),(1,1)] ?_
         try (exfalso;omega)
         all_goals
          refine ae ?_
          refine ah rfl rfl (fun g3=>?_) rfl (fun g3=>?_)
          ·have g3:=ot g3
           try (exfalso;omega)
           all_goals
            refine ae ?_
            refine ad rfl (fun d3=>?_) (fun d3=>?_)
            ·have d3:=ot d3
             refine ae ?_
             refine yc (R3 (by omega) (by omega)) [(0,0),(1,1)] ?_
             refine ae ?_
             exact en []
            ·have d3:=oF d3
             rw [N3 (by omega)]
             refine ae ?_
             exact en []
          ·have g3:=oF g3
           rw [N3 (by omega)]
           refine ae ?_
           exact en []
        ·have d2:=oF d2
         rw [N2 (by omega)]
         try (exfalso;omega)
         all_goals
          refine ae ?_
          refine ah rfl rfl (fun g3=>?_) rfl (fun g3=>?_)
          ·have g3:=ot g3
           try (exfalso;omega)
           all_goals
            refine ae ?_
            refine ad rfl (fun d3=>?_) (fun d3=>?_)
            ·have d3:=ot d3
             refine ae ?_
             refine yc (R3 (by omega) (by omega)) [(0,0),(1,1)] ?_
             refine ae ?_
             exact en []
            ·have d3:=oF d3
             rw [N3 (by omega)]
             refine ae ?_
             exact en []
          ·have g3:=oF g3
           rw [N3 (by omega)]
           refine ae ?_
           exact en []
       ·have g2:=oF g2
        rw [N2 (by omega)]
        try (exfalso;omega)
        all_goals
         refine ae ?_
         refine ah rfl rfl (fun g3=>?_) rfl (fun g3=>?_)
         ·have g3:=ot g3
          try (exfalso;omega)
          all_goals
           refine ae ?_
           refine ad rfl (fun d3=>?_) (fun d3=>?_)
           ·have d3:=ot d3
            refine ae ?_
            refine yc (R3 (by omega) (by omega)) [(0,0),(1,1)] ?_
            refine ae ?_
            exact en []
           ·have d3:=oF d3
            rw [N3 (by omega)]
            refine ae ?_
            exact en []
         ·have g3:=oF g3
          rw [N3 (by omega)]
          refine ae ?_
          exact en []
     ·have d1:=oF d1
      rw [N1 om]
      try (exfalso;omega)
      all_goals
       refine ae ?_
       refine ah rfl rfl (fun g2=>?_) rfl (fun g2=>?_)
       ·have g2:=ot g2
        refine ae ?_
        refine ad rfl (fun d2=>?_) (fun d2=>?_)
        ·have d2:=ot d2
         refine ae ?_
         refine yc (R2 (by omega) (by omega)) [(0,0),(1,1)] ?_
         try (exfalso;omega)
         all_goals
          refine ae ?_
          refine ah rfl rfl (fun g3=>?_) rfl (fun g3=>?_)
          ·have g3:=ot g3
           try (exfalso;omega)
           all_goals
            refine ae ?_
            refine ad rfl (fun d3=>?_) (fun d3=>?_)
            ·have d3:=ot d3
             refine ae ?_
             refine yc (R3 (by omega) (by omega)) [(0,0),(1,1)] ?_
             refine ae ?_
             exact en []
            ·have d3:=oF d3
             rw [N3 (by omega)]
             refine ae ?_
             exact en []
          ·have g3:=oF g3
           rw [N3 (by omega)]
           refine ae ?_
           exact en []
        ·have d2:=oF d2
         rw [N2 (by omega)]
         try (exfalso;omega)
         all_goals
          refine ae ?_
          refine ah rfl rfl (fun g3=>?_) rfl (fun g3=>?_)
          ·have g3:=ot g3
           try (exfalso;omega)
           all_goals
            refine ae ?_
            refine ad rfl (fun d3=>?_) (fun d3=>?_)
            ·have d3:=ot d3
             refine ae ?_
             refine yc (R3 (by omega) (by omega)) [(0,0),(1,1)] ?_
             refine ae ?_
             exact en []
            ·have d3:=oF d3
             rw [N3 (by omega)]
             refine ae ?_
             exact en []
          ·have g3:=oF g3
           rw [N3 (by omega)]
           refine ae ?_
           exact en []
       ·have g2:=oF g2
        rw [N2 (by omega)]
        try (exfalso;omega)
        all_goals
         refine ae ?_
         refine ah rfl rfl (fun g3=>?_) rfl (fun g3=>?_)
         ·have g3:=ot g3
          try (exfalso;omega)
          all_goals
           refine ae ?_
           refine ad rfl (fun d3=>?_) (fun d3=>?_)
           ·have d3:=ot d3
            refine ae ?_
            refine yc (R3 (by omega) (by omega)) [(0,0),(1,1)] ?_
            refine ae ?_
            exact en []
           ·have d3:=oF d3
            rw [N3 (by omega)]
            refine ae ?_
            exact en []
         ·have g3:=oF g3
          rw [N3 (by omega)]
          refine ae ?_
          exact en []
    ·have g1:=oF g1
     rw [N1 om]
     try (exfalso;omega)
     all_goals
      refine ae ?_
      refine ah rfl rfl (fun g2=>?_) rfl (fun g2=>?_)
      ·have g2:=ot g2
       refine ae ?_
       refine ad rfl (fun d2=>?_) (fun d2=>?_)
       ·have d2:=ot d2
        refine ae ?_
        refine yc (R2 (by omega) (by omega)) [(0,0),(1,1)] ?_
        try (exfalso;omega)
        all_goals
         refine ae ?_
         refine ah rfl rfl (fun g3=>?_) rfl (fun g3=>?_)
         ·have g3:=ot g3
          try (exfalso;omega)
          all_goals
           refine ae ?_
           refine ad rfl (fun d3=>?_) (fun d3=>?_)
           ·have d3:=ot d3
            refine ae ?_
            refine yc (R3 (by omega) (by omega)) [(0,0),(1,1)] ?_
            refine ae ?_
            exact en []
           ·have d3:=oF d3
            rw [N3 (by omega)]
            refine ae ?_
            exact en []
         ·have g3:=oF g3
          rw [N3 (by omega)]
          refine ae ?_
          exact en []
       ·have d2:=oF d2
        rw [N2 (by omega)]
        try (exfalso;omega)
        all_goals
         refine ae ?_
         refine ah rfl rfl (fun g3=>?_) rfl (fun g3=>?_)
         ·have g3:=ot g3
          try (exfalso;omega)
          all_goals
           refine ae ?_
           refine ad rfl (fun d3=>?_) (fun d3=>?_)
           ·have d3:=ot d3
            refine ae ?_
            refine yc (R3 (by omega) (by omega)) [(0,0),(1,1)] ?_
            refine ae ?_
            exact en []
           ·have d3:=oF d3
            rw [N3 (by omega)]
            refine ae ?_
            exact en []
         ·have g3:=oF g3
          rw [N3 (by omega)]
          refine ae ?_
          exact en []
      ·have g2:=oF g2
       rw [N2 (by omega)]
       try (exfalso;omega)
       all_goals
        refine ae ?_
        refine ah rfl rfl (fun g3=>?_) rfl (fun g3=>?_)
        ·have g3:=ot g3
         try (exfalso;omega)
         all_goals
          refine ae ?_
          refine ad rfl (fun d3=>?_) (fun d3=>?_)
          ·have d3:=ot d3
           refine ae ?_
           refine yc (R3 (by omega) (by omega)) [(0,0),(1,1)] ?_
           refine ae ?_
           exact en []
          ·have d3:=oF d3
           rw [N3 (by omega)]
           refine ae ?_
           exact en []
        ·have g3:=oF g3
         rw [N3 (by omega)]
         refine ae ?_
         exact en []
  ·have hgt:=oF hd
   have hgt:m≤mid:=om
   obtain⟨lo,hlo⟩: ∃lo,lo=a:=⟨_,rfl⟩
   obtain⟨hi,hhi⟩: ∃hi,hi=m:=⟨_,rfl⟩
   refine ae ?_
   refine ar (Nat×Nat) (fun q=> [(19, .int .i64 q.2),(18, .int .i64 q.1),(20, .int .i64 ((mid:Int) + m - 1)),(17, .int .i64 ((mid:Int) + m)),(16, .int .i64 mid),(4, .ptr 2 2 0 0 []),(3, .int .i64 b),(2, .int .i64 m),(1, .int .i64 a)]) (fun q=>aR n T0 ++ [(2,⟨229,2,false,0,[dL n]⟩)]) 3
    (fun q=>lo≤q.1∧q.1≤q.2∧q.2≤hi∧(∀c,lo≤c→c < q.1→gB A B (c - a) (mid - 1 - c)=false)∧(∀c,q.2≤c→c < hi→gB A B (c - a) (mid - 1 - c)=true)) (fun q=>q.2 - q.1) (lo,hi) ⟨a₂ _,by omega,a₂ _,fun c h1 h2=>absurd h2 (by show ¬ c < lo;omega),fun c h1 h2=>absurd h2 (by have h1:hi≤c:=h1;omega)⟩ (by(try dsimp only);exact vm [(2,_)] [] (h2:=by exact nk)) ?_
   rintro⟨st,r⟩ ⟨i1,i2,i3,i4,i5⟩
   try dsimp only
   dsimp only at i1 i2 i3 i4 i5
   refine ae ?_
   refine ad rfl (fun hd=>?_) (fun hd=>?_)
   ·have hlt:st < r:=by have:=ot hd;omega
    obtain⟨c,hc⟩: ∃c,c=(st + r) / 2:=⟨_,rfl⟩
    obtain⟨x,hx⟩:=dN (l:=A) (i:=c - a) om
    obtain⟨y,hy⟩:=dN (l:=B) (i:=mid - 1 - c) om
    have hless:=pH (G:=G) n T0 hlen (m + (mid - 1 - c)) c (hTy hy) (by have:=hTx hx;rwa [show a + (c - a)=c by omega] at this)
    have hg:=wW hx hy
    have k2:=aT.mk (uP st r)
    refine ae ?_
    refine yc (hless) [(0,0),(1,1)] ?_
    refine ae ?_
    refine ad rfl (fun hb=>?_) (fun hb=>?_)
    ·have hb:ee y.1 x.1=false:=by simpa using hb
     refine ae ?_
     refine⟨(c + 1,r),⟨by show lo≤c + 1;omega,by show c + 1≤r;omega,i3,fun k h1 h2=>?_,i5⟩,by show r - (c + 1) < r - st;omega,(by(try dsimp only);exact vm [(2,_)] [] (h2:=by exact nk))⟩
     have h2:k < c + 1:=h2
     cases hq:gB A B (k - a) (mid - 1 - k) with
     | false=>rfl
     | true=>
      have:=r7 hA hB ht (u':=c - a) (v':=mid - 1 - c) om om om om hq
      rw [hg,hb] at this
      cases this
    ·have hb:ee y.1 x.1=true:=by simpa using hb
     refine ae ?_
     refine⟨(st,c),⟨i1,by show st≤c;omega,by show c≤hi;omega,i4,fun k h1 h2=>?_⟩,by show c - st < r - st;omega,(by(try dsimp only);exact vm [(2,_)] [] (h2:=by exact nk))⟩
     have h1:c≤k:=h1
     exact r7 hA hB ht (u:=c - a) (v:=mid - 1 - c) om om om om (by rw [hg];exact hb)
   ·have hlt:st=r:=by have:=oF hd;omega
    subst hlt
    obtain⟨T1,T2,R1,N1,R2,N2,R3,N3⟩:=hrest st om om om om (fun h1 h2=>i4 (st - 1) om om) (fun h1 h2=>i5 st (a₂ _) om)
    refine ae ?_
    refine ah rfl rfl (fun g1=>?_) rfl (fun g1=>?_)
    ·have g1:=ot g1
     refine ae ?_
     refine ad rfl (fun d1=>?_) (fun d1=>?_)
     ·have d1:=ot d1
      refine ae ?_
      refine yc (R1 om om) [(0,0),(1,1)] ?_
      try (exfalso;omega)
      all_goals
       refine ae ?_
       refine ah rfl rfl (fun g2=>?_) rfl (fun g2=>?_)
       ·have g2:=ot g2
        refine ae ?_
        refine ad rfl (fun d2=>?_) (fun d2=>?_)
        ·have d2:=ot d2
         refine ae ?_
         refine yc (R2 (by omega) (by omega)) [(0,0),(1,1)] ?_
         try (exfalso;omega)
         all_goals
          refine ae ?_
          refine ah rfl rfl (fun g3=>?_) rfl (fun g3=>?_)
          ·have g3:=ot g3
           try (exfalso;omega)
           all_goals
            refine ae ?_
            refine ad rfl (fun d3=>?_) (fun d3=>?_)
            ·have d3:=ot d3
             refine ae ?_
             refine yc (R3 (by omega) (by omega)) [(0,0),(1,1)] ?_
             refine ae ?_
             exact en []
            ·have d3:=oF d3
             rw [N3 (by omega)]
             refine ae ?_
             exact en []
          ·have g3:=oF g3
           rw [N3 (by omega)]
           refine ae ?_
           exact en []
        ·have d2:=oF d2
         rw [N2 (by omega)]
         try (exfalso;omega)
         all_goals
          refine ae ?_
          refine ah rfl rfl (fun g3=>?_) rfl (fun g3=>?_)
          ·have g3:=ot g3
           try (exfalso;omega)
           all_goals
            refine ae ?_
            refine ad rfl (fun d3=>?_) (fun d3=>?_)
            ·have d3:=ot d3
             refine ae ?_
             refine yc (R3 (by omega) (by omega)) [(0,0),(1,1)] ?_
             refine ae ?_
             exact en []
            ·have d3:=oF d3
             rw [N3 (by omega)]
             refine ae ?_
             exact en []
          ·have g3:=oF g3
           rw [N3 (by omega)]
           refine ae ?_
           exact en []
       ·have g2:=oF g2
        rw [N2 (by omega)]
        try (exfalso;omega)
        all_goals
         refine ae ?_
         refine ah rfl rfl (fun g3=>?_) rfl (fun g3=>?_)
         ·have g3:=ot g3
          try (exfalso;omega)
          all_goals
           refine ae ?_
           refine ad rfl (fun d3=>?_) (fun d3=>?_)
           ·have d3:=ot d3
            refine ae ?_
            refine yc (R3 (by omega) (by omega)) [(0,0),(1,1)] ?_
            refine ae ?_
            exact en []
           ·have d3:=oF d3
            rw [N3 (by omega)]
            refine ae ?_
            exact en []
         ·have g3:=oF g3
          rw [N3 (by omega)]
          refine ae ?_
          exact en []
     ·have d1:=oF d1
      rw [N1 om]
      try (exfalso;omega)
      all_goals
       refine ae ?_
       refine ah rfl rfl (fun g2=>?_) rfl (fun g2=>?_)
       ·have g2:=ot g2
        refine ae ?_
        refine ad rfl (fun d2=>?_) (fun d2=>?_)
        ·have d2:=ot d2
         refine ae ?_
         refine yc (R2 (by omega) (by omega)) [(0,0),(1,1)] ?_
         try (exfalso;omega)
         all_goals
          refine ae ?_
          refine ah rfl rfl (fun g3=>?_) rfl (fun g3=>?_)
          ·have g3:=ot g3
           try (exfalso;omega)
           all_goals
            refine ae ?_
            refine ad rfl (fun d3=>?_) (fun d3=>?_)
            ·have d3:=ot d3
             refine ae ?_
             refine yc (R3 (by omega) (by omega)) [(0,0),(1,1)] ?_
             refine ae ?_
             exact en []
            ·have d3:=oF d3
             rw [N3 (by omega)]
             refine ae ?_
             exact en []
          ·have g3:=oF g3
           rw [N3 (by omega)]
           refine ae ?_
           exact en []
        ·have d2:=oF d2
         rw [N2 (by omega)]
         try (exfalso;omega)
         all_goals
          refine ae ?_
          refine ah rfl rfl (fun g3=>?_) rfl (fun g3=>?_)
          ·have g3:=ot g3
           try (exfalso;omega)
           all_goals
            refine ae ?_
            refine ad rfl (fun d3=>?_) (fun d3=>?_)
            ·have d3:=ot d3
             refine ae ?_
             refine yc (R3 (by omega) (by omega)) [(0,0),(1,1)] ?_
             refine ae ?_
             exact en []
            ·have d3:=oF d3
             rw [N3 (by omega)]
             refine ae ?_
             exact en []
          ·have g3:=oF g3
           rw [N3 (by omega)]
           refine ae ?_
           exact en []
       ·have g2:=oF g2
        rw [N2 (by omega)]
        try (exfalso;omega)
        all_goals
         refine ae ?_
         refine ah rfl rfl (fun g3=>?_) rfl (fun g3=>?_)
         ·have g3:=ot g3
          try (exfalso;omega)
          all_goals
           refine ae ?_
           refine ad rfl (fun d3=>?_) (fun d3=>?_)
           ·have d3:=ot d3
            refine ae ?_
            refine yc (R3 (by omega) (by omega)) [(0,0),(1,1)] ?_
            refine ae ?_
            exact en []
           ·have d3:=oF d3
            rw [N3 (by omega)]
            refine ae ?_
            exact en []
         ·have g3:=oF g3
          rw [N3 (by omega)]
          refine ae ?_
          exact en []
    ·have g1:=oF g1
     rw [N1 om]
     try (exfalso;omega)
     all_goals
      refine ae ?_
      refine ah rfl rfl (fun g2=>?_) rfl (fun g2=>?_)
      ·have g2:=ot g2
       refine ae ?_
       refine ad rfl (fun d2=>?_) (fun d2=>?_)
       ·have d2:=ot d2
        refine ae ?_
        refine yc (R2 (by omega) (by omega)) [(0,0),(1,1)] ?_
        try (exfalso;omega)
        all_goals
         refine ae ?_
         refine ah rfl rfl (fun g3=>?_) rfl (fun g3=>?_)
         ·have g3:=ot g3
          try (exfalso;omega)
          all_goals
           refine ae ?_
           refine ad rfl (fun d3=>?_) (fun d3=>?_)
           ·have d3:=ot d3
            refine ae ?_
            refine yc (R3 (by omega) (by omega)) [(0,0),(1,1)] ?_
            refine ae ?_
            exact en []
           ·have d3:=oF d3
            rw [N3 (by omega)]
            refine ae ?_
            exact en []
         ·have g3:=oF g3
          rw [N3 (by omega)]
          refine ae ?_
          exact en []
       ·have d2:=oF d2
        rw [N2 (by omega)]
        try (exfalso;omega)
        all_goals
         refine ae ?_
         refine ah rfl rfl (fun g3=>?_) rfl (fun g3=>?_)
         ·have g3:=ot g3
          try (exfalso;omega)
          all_goals
           refine ae ?_
           refine ad rfl (fun d3=>?_) (fun d3=>?_)
           ·have d3:=ot d3
            refine ae ?_
            refine yc (R3 (by omega) (by omega)) [(0,0),(1,1)] ?_
            refine ae ?_
            exact en []
           ·have d3:=oF d3
            rw [N3 (by omega)]
            refine ae ?_
            exact en []
         ·have g3:=oF g3
          rw [N3 (by omega)]
          refine ae ?_
          exact en []
      ·have g2:=oF g2
       rw [N2 (by omega)]
       try (exfalso;omega)
       all_goals
        refine ae ?_
        refine ah rfl rfl (fun g3=>?_) rfl (fun g3=>?_)
        ·have g3:=ot g3
         try (exfalso;omega)
         all_goals
          refine ae ?_
          refine ad rfl (fun d3=>?_) (fun d3=>?_)
          ·have d3:=ot d3
           refine ae ?_
           refine yc (R3 (by omega) (by omega)) [(0,0),(1,1)] ?_
           refine ae ?_
           exact en []
          ·have d3:=oF d3
           rw [N3 (by omega)]
           refine ae ?_
           exact en []
        ·have g3:=oF g3
         rw [N3 (by omega)]
         refine ae ?_
         exact en []
end
section
open Go.RowKit Go.Lib
variable {G:GS} {w:World} {P:bC} {adr:dV}
def cs (B:Nat) (l:List TE):List TE:=if 0 < B∧B < l.length then eu (l.take B) ++ cs B (l.drop B) else eu l
termination_by l.length
decreasing_by simp;omega
theorem cs_short {B:Nat} {l:List TE} (h:l.length≤B):cs B l=eu l:=by rw [cs,if_neg om]
theorem cs_step {B:Nat} {l:List TE} (hB:0 < B) (h:B≤l.length):cs B l=eu (l.take B) ++ cs B (l.drop B):=by
 by_cases h1:B < l.length
 ·rw [cs,if_pos ⟨hB,h1⟩]
 ·have h2:l.length=B:=om;rw [cs_short om,cs_short (by simp;omega),List.take_of_length_le om,List.drop_eq_nil_of_le om];simp [eu]
theorem cs_len (B:Nat) (l:List TE):(cs B l).length=l.length:=by
 induction l using cs.induct B with
 | case1 l h ih=>rw [cs,if_pos h,a₃,ih,(bo _).length_eq];simp;omega
 | case2 l h=>rw [cs,if_neg h,(bo _).length_eq]
structure P5 (A B l:List TE):Prop where
 a:gk A
 b:gk B
 t: ∀x∈A,∀y∈B,x.2 < y.2
 n:dz (A ++ B)
 s:eu (A ++ B)=eu l
theorem Jp {U V l:List TE} (h:U ++ V=l) (hl:k8 l):P5 (eu U) (eu V) l:=by
 subst h;obtain⟨h1,h2,h3⟩:=a₈.1 hl;have hp:(eu U ++ eu V).Perm (U ++ V):=(bo U).append (bo V);have hn:dz (eu U ++ eu V):=(kf hl).perm hp.symm;exact⟨jt U (kf h1),jt V (kf h2),fun x hx y hy=>h3 x ((bo U).mem_iff.1 hx) y ((bo V).mem_iff.1 hy),hn,wU hp (kf hl)⟩
theorem Jq (n:Nat) (hN:n < 288230376151711744) (t:List TE) (hn:t.length=n) (ht:k8 t):aH Tryz.prog G 169 [dL n, .int .i64 n] (aR n t) 2 (.tup []) (aR n (eu t)) 2:=by
 obtain⟨cs,cs_step,cs_short,cs_len⟩: ∃cs:Nat→List TE→List TE,(∀{B:Nat} {l:List TE},0 < B→B≤l.length→cs B l=eu (l.take B) ++ cs B (l.drop B))∧(∀{B:Nat} {l:List TE},l.length≤B→cs B l=eu l)∧∀(B:Nat) (l:List TE),(cs B l).length=l.length:=⟨cs,cs_step,cs_short,cs_len⟩
 refine bR seat Tryz.func169 57 ?_;refine ae ?_;refine ar (Nat×List TE) (fun x=> [(6, .int .i64 ((x.1 + 20:Nat):Int)),(5, .int .i64 x.1),(4, .int .i64 20),(2, .ptr 2 2 0 0 []),(1, .int .i64 n)]) (fun x=>aR n (x.2 ++ t.drop x.1) ++ [(2,⟨229,2,false,0,[dL n]⟩)]) 3 (fun x=>x.1≤n∧x.2.length=x.1∧cs 20 t=x.2 ++ cs 20 (t.drop x.1)) (fun x=>n - x.1) (0,[]) ⟨a₆ _,rfl,rfl⟩ (by(try dsimp only);exact vm [(2,_)] [] (h2:=by exact nk)) ?_;rintro⟨a,D⟩ ⟨h1,h2,h3⟩;try dsimp only
 dsimp only at h1 h2 h3;try dsimp only
 refine ae ?_;refine ad rfl (fun hd=>?_) (fun hd=>?_)
 ·have hle:a + 20≤n:=by have:=ot hd;omega
  have hst:=cs_step (B:=20) (l:=t.drop a) om (by simp;omega);have hcut:t.drop a=(t.drop a).take 20 ++ t.drop (a + 20):=by rw [← a₇,c₂]
  rw [a₇] at hst;have hA:k8 ((t.drop a).take 20):=ht.sublist ((c₇ _ _).trans (b₈ _ _));have hl:((t.drop a).take 20).length=20:=by simp;omega
  rw [hcut];generalize hseg:(t.drop a).take 20=A at *;refine ae ?_;refine yc (rz (G:=G) n om D A (t.drop (a + 20)) a (a + 20) h2 om (by simp;omega) hA) [(0,0),(1,1)] ?_;refine ae ?_;refine⟨(a + 20,D ++ eu A),⟨hle,by show(D ++ eu A).length=a + 20;rw [a₃,(bo A).length_eq];omega,by show cs 20 t=(D ++ eu A) ++ cs 20 (t.drop (a + 20));rw [h3,hst,b₀]⟩,by show n - (a + 20) < n - a;omega,?_⟩;try dsimp only
  rw [b₀];exact(vm [(2,_)] [] (h2:=by exact nk))
 ·have hle:n < a + 20:=by have:=oF hd;omega
  have hst:=cs_short (B:=20) (l:=t.drop a) (by simp;omega);have hA:k8 (t.drop a):=ht.sublist (b₈ _ _);have hlA:a + (t.drop a).length=n:=by simp;omega
  have hins:=rz (G:=G) n om D (t.drop a) [] a n h2 hlA sm hA;rw [a₄,a₄,← hst,← h3] at hins;refine ae ?_;refine yc (hins) [(0,0),(1,1)] ?_;clear hins hst hA hlA hle hd h1 h2 h3;refine ae ?_;refine ar (Nat) (fun B=> [(4, .int .i64 B),(2, .ptr 2 2 0 0 []),(1, .int .i64 n)]) (fun B=>aR n (cs B t) ++ [(2,⟨229,2,false,0,[dL n]⟩)]) 3 (fun B=>0 < B∧(B=20∨B < 2 * n)) (fun B=>n - B) 20 ⟨by omega, .inl rfl⟩ (by(try dsimp only);exact vm [(2,_)] [] (h2:=by exact nk)) ?_;rintro B ⟨hB0,hB2⟩;try dsimp only
  refine ae ?_;refine ad rfl (fun hd=>?_) (fun hd=>?_)
  ·have hBn:B < n:=by have:=ot hd;omega
   refine ae ?_;refine ar (Nat×List TE) (fun x=> [(6, .int .i64 ((x.1 + 2 * B:Nat):Int)),(5, .int .i64 x.1),(4, .int .i64 B),(2, .ptr 2 2 0 0 []),(1, .int .i64 n)]) (fun x=>aR n (x.2 ++ cs B (t.drop x.1)) ++ [(2,⟨229,2,false,0,[dL n]⟩)]) 3 (fun x=>x.1≤n∧x.2.length=x.1∧cs (2 * B) t=x.2 ++ cs (2 * B) (t.drop x.1)) (fun x=>n - x.1) (0,[]) ⟨a₆ _,rfl,rfl⟩ (by(try dsimp only);exact vm [(2,_)] [] (h2:=by exact nk)) ?_;rintro⟨a,D⟩ ⟨h1,h2,h3⟩;try dsimp only
   dsimp only at h1 h2 h3;have hl:k8 (t.drop a):=ht.sublist (b₈ _ _);have hll:(t.drop a).length=n - a:=by simp [hn]
   try dsimp only
   refine ae ?_;refine ad rfl (fun hd=>?_) (fun hd=>?_)
   ·have hle:a + 2 * B≤n:=by have:=ot hd;omega
    have e1:=cs_step (B:=B) (l:=t.drop a) hB0 om;have e2:=cs_step (B:=B) (l:=(t.drop a).drop B) hB0 (by simp;omega);have e3:=cs_step (B:=2 * B) (l:=t.drop a) om om;have hU:(t.drop a).take B ++ ((t.drop a).drop B).take B=(t.drop a).take (2 * B):=by
     rw [show 2 * B=B + B by omega,List.take_add]
    have h2':=Jp hU (hl.sublist (c₇ _ _));have l1:(eu ((t.drop a).take B)).length=B:=by rw [(bo _).length_eq];simp;omega
    have l2:(eu (((t.drop a).drop B).take B)).length=B:=by rw [(bo _).length_eq];simp;omega
    rw [a₇,a₇,show a + B + B=a + 2 * B by omega] at e2;rw [a₇] at h2' l2 e1;rw [a₇] at e3;rw [e1,e2];rw [e3] at h3;rw [← h2'.s] at h3;have l3:(cs B (t.drop (a + 2 * B))).length=n - (a + 2 * B):=by rw [cs_len];simp [hn]
    clear e1 e2 e3 hU;generalize eu ((t.drop a).take B)=U at *;generalize eu ((t.drop (a + B)).take B)=V at *;have lUV:(eu (U ++ V)).length=2 * B:=by rw [(bo _).length_eq,a₃];omega
    refine ae ?_;refine yc (Mp (G:=G) n om (2 * B) D U V (cs B (t.drop (a + 2 * B))) a (a + B) (a + 2 * B) om h2 om om om om om h2'.a h2'.b h2'.t h2'.n) [(0,0),(1,1)] ?_;refine ae ?_;refine⟨(a + 2 * B,D ++ eu (U ++ V)),⟨hle,by show(D ++ eu (U ++ V)).length=a + 2 * B;rw [a₃];omega,by show cs (2 * B) t=(D ++ eu (U ++ V)) ++ cs (2 * B) (t.drop (a + 2 * B));rw [h3,b₀]⟩,by show n - (a + 2 * B) < n - a;omega,?_⟩;try dsimp only
    rw [b₀];exact(vm [(2,_)] [] (h2:=by exact nk))
   ·have hle:n < a + 2 * B:=by have:=oF hd;omega
    have e3:=cs_short (B:=2 * B) (l:=t.drop a) om;try dsimp only
    refine ae ?_;refine ad rfl (fun hd=>?_) (fun hd=>?_)
    ·have hlt:a + B < n:=by have:=ot hd;omega
     have e1:=cs_step (B:=B) (l:=t.drop a) hB0 om;have e2:=cs_short (B:=B) (l:=(t.drop a).drop B) (by simp;omega);have h2':=Jp (c₂ B (t.drop a)) hl;have l1:(eu ((t.drop a).take B)).length=B:=by rw [(bo _).length_eq];simp;omega
     have l2:(eu ((t.drop a).drop B)).length=n - (a + B):=by rw [(bo _).length_eq];simp;omega
     rw [e1,e2];rw [e3,← h2'.s] at h3;generalize eu ((t.drop a).take B)=U at *;generalize eu ((t.drop a).drop B)=V at *;have hsym:=Mp (G:=G) n om n D U V [] a (a + B) n om h2 om om sm om om h2'.a h2'.b h2'.t h2'.n;rw [a₄,a₄,← h3] at hsym;refine ae ?_;refine yc (hsym) [(0,0),(1,1)] ?_;refine ae ?_;exact⟨2 * B,⟨by omega, .inr (by omega)⟩,by show n - 2 * B < n - B;omega,(by(try dsimp only);exact vm [(2,_)] [] (h2:=by exact nk))⟩
    ·have hlt:n≤a + B:=by have:=oF hd;omega
     have e1:=cs_short (B:=B) (l:=t.drop a) om;rw [e1,← e3,← h3];refine ae ?_;exact⟨2 * B,⟨by omega, .inr (by omega)⟩,by show n - 2 * B < n - B;omega,(by(try dsimp only);exact vm [(2,_)] [] (h2:=by exact nk))⟩
  ·have hBn:n≤B:=by have:=oF hd;omega
   try dsimp only
   rw [cs_short om];refine ae ?_;exact en []
end
section
open Go.RowKit Go.Lib
variable {G:GS} {w:World} {P:bC} {adr:dV}
noncomputable def CT:TypeInfo:=(Tryz.prog.info? 39).get (by kernel_rfl)
noncomputable def CU:TypeInfo:=(Tryz.prog.info? 64).get (by kernel_rfl)
theorem uQ:Tryz.prog.info? 39=some CT:=by kernel_rfl
theorem CW:Tryz.prog.info? 64=some CU:=by kernel_rfl
theorem uR:CT.desc= .slice 64:=by kernel_rfl
theorem ND:Tryz.prog.packed 39=false:=by kernel_rfl
theorem CX (w:World):(Extern.Rtype.kind 64).run Tryz.prog w= .ok 25 w:=by kernel_rfl
theorem P6 (n:Nat) (h2:2≤n):swapperK n CU 25=9:=by
 have a:CU.hasPointers=true:=by kernel_rfl
 have b:(CU.bytes == 8)=false:=by kernel_rfl
 have c:(n == 0)=false:=by simp;omega
 have d:(n == 1)=false:=by simp;omega
 simp [swapperK,a,b,c,d]
theorem Jr {c es off n:Nat} {u:Value} (h:aI w P adr (.ms c es off n) u): ∃p cap,u= .slice p n cap∧bF w P adr (.ms c es off n) [.slice p n cap] :=by
 cases h with
 | val cs h=>
  cases h with
  | ms0=>exact ⟨none,0,rfl, .ms0⟩
  | ms g o cap h1 h2 h3 h4 h5=>exact ⟨_,cap,rfl, .ms g o cap h1 h2 h3 h4 h5⟩
theorem Ex {t n es c off:Nat} {u:Value} (h:aI w P adr (.ifc t (.ms c es off n)) u): ∃p cap,u= .iface t (.slice p n cap)∧bF w P adr (.ms c es off n) [.slice p n cap] :=by
 cases h with
 | val cs h=>
  cases h with
  | ifc cs hr=>
   obtain⟨p,cap,h1,h2⟩:=Jr (.val cs hr);exact⟨p,cap,by rw [← h1];rfl,h2⟩
theorem qD (n:Nat) (t:List TE):BF Tryz.prog G 167 [.ifc 39 (.ms 1 41 0 n)] (aR n t) 2 (.st [CS 39, .ptr 2 1 0 0 [], .int .u64 151]) ((2,⟨39,1,false,0,[.ms 1 41 0 n]⟩) :: aR n t) 3:=by
 intro w P adr vals hg hI hn hL hargs;cases hargs with | cons a1 hargs=>
 cases hargs;obtain⟨p,cap,rfl,hr⟩:=Ex a1;have hf:(callFunc 167 #[.iface 39 (.slice p n cap)]).run Tryz.prog w=_:=
  run_callFunc_extern Tryz.func167 (by kernel_rfl) (by kernel_rfl) (by kernel_rfl) (e:=fun args=>Extern.ReflectliteValue.unpack (args.getD 0 (.tuple #[]))) (by kernel_rfl) _ w
 rw [show (#[.iface 39 (.slice p n cap)] :Array Value).getD 0 (.tuple #[])= .iface 39 (.slice p n cap) from rfl,run_valueOf_slice _ _ CT uQ uR] at hf;have hb:=Below.alloc1 w (.cells #[.slice p n cap] 39);obtain⟨i1,k1⟩:=hI.new (b:=⟨39,1,false,0,[.ms 1 41 0 n]⟩) (hn 2 (a₂ _)) rfl hb (cur:= #[.slice p n cap]) (parts:= [[.slice p n cap]]) (by show(w.heap.push _)[w.heap.size]? =_;simp) rfl sm (fun j x q hx hq=>by
  match j with
  | 0=>simp at hx hq;subst hx hq;exact hr
  | j + 1=>simp at hx) sm (a₆ _)
 rw [Jj] at i1;refine⟨_,_,hf,_,rfl,P,_,i1,?_,k1,fun c hc=>aK _ _ om,fun c hc=>(aK _ _ om).trans (hn c om),fun c g hc=>?_,fun b o ho=> .inl ho,(bl.of_below hb).weak fun _ e=>e.elim⟩
 ·exact .val _ (.st [[typeHandle Tryz.prog 39],[.pointer (some ⟨w.heap.size,0,none⟩)],[.int .u64 151]] rfl fun j m q hm hq=>by
   match j with
   | 0=>simp at hm hq;subst hm hq;exact .gp
   | 1=>simp at hm hq;subst hm hq;exact .ptr (fo:=0) (k:=0) w.heap.size (aF _ _ _)
   | 2=>simp at hm hq;subst hm hq;exact .int
   | j + 3=>simp at hm)
 ·by_cases h:c=2
  ·subst h;rw [aF] at hc;injection hc with hc;exact .inl om
  ·rw [aK _ _ h] at hc;exact .inr ⟨c,hc⟩
theorem Js (n:Nat) (t:List TE) {g:Nat} (hI:aQ w P adr (VM.get (aR n t))) (hg:adr 0=some g): ∃p cap,w.cell? ⟨g,0,none⟩=some (.slice p n cap):=by
 rcases hI.blk 0 _ rfl with h | ⟨g',h1,h2⟩
 ·rw [hg] at h;cases h.2.2.1
 ·rw [hg] at h1;injection h1 with h1
  subst h1;obtain⟨cur,parts,q1,q2,q3,q4,q5⟩:=h2.ofE (by show(1:Nat)≠0;omega)
  match parts,q2 with
  | [s],_=>
   have hr:=q4 0 _ s rfl rfl;obtain⟨p,cap,hu,hv⟩:=Jr (.val s hr);have hs:s.length=1:=q3 s sm
   match s,hs with
   | [u],_=>
    have:u= .slice p n cap:=hu;subst this;refine⟨p,cap,?_⟩;rw [cell_of_row w g 0 cur _ (0,0) q1];have:=cI q5 (j:=0) (x:= .slice p n cap) sm;simpa using this
theorem nV (n:Nat) (t:List TE):BF Tryz.prog G 170 [.st [CS 39, .ptr 0 1 0 0 [], .int .u64 151]] (aR n t) 2 (.int .i64 n) (aR n t) 2:=by
 intro w P adr vals hg hI hn hL hargs;cases hargs with | cons a1 hargs=>
 cases hargs;obtain⟨cs,h1,rfl⟩:=a1.agg_ rfl;cases h1 with | st parts hp hr=>
 match parts,hp with
 | [c0,c1,c2],_=>
  have r0:=hr 0 _ c0 rfl rfl;have r1:=hr 1 _ c1 rfl rfl;have r2:=hr 2 _ c2 rfl rfl;cases r0;cases r2;cases r1 with | ptr g h1=>
  obtain⟨p,cap,hc⟩:=Js n t hI h1;have hf:(callFunc 170 #[.agg #[typeHandle Tryz.prog 39, .pointer (some ⟨g,0,none⟩), .int .u64 151]]).run Tryz.prog w=_:=
   run_callFunc_extern Tryz.func170 (by kernel_rfl) (by kernel_rfl) (by kernel_rfl) (e:=Extern.ReflectliteValue.method (Extern.ReflectliteValue.valueError "reflectlite.Value.Len" 0) Extern.ReflectliteValue.len) (by kernel_rfl) _ w
  rw [run_valueLen_slice _ _ CT uQ uR ND _ _ _ _ _ hc] at hf;exact⟨_,_,hf,_,rfl,P,adr,hI, .val [_] .int,bg.refl _ _ _,fun _ _=>rfl,hn,fun c g hc=> .inr ⟨c,hc⟩,fun b o ho=> .inl ho,bl.refl _ _⟩
noncomputable def uS (n:Nat):MV:=if n=0 then .fn 206 [] else if n=1 then .fn 207 [] else .fn 214 [.ms 1 41 0 n,CS 64]
theorem Gw (n:Nat) (t:List TE):BF Tryz.prog G 168 [.ifc 39 (.ms 1 41 0 n)] (aR n t) 2 (uS n) (aR n t) 2:=by
 intro w P adr vals hg hI hn hL hargs;cases hargs with | cons a1 hargs=>
 cases hargs;obtain⟨p,cap,rfl,hr⟩:=Ex a1;have hf:(callFunc 168 #[.iface 39 (.slice p n cap)]).run Tryz.prog w=_:=
  run_callFunc_extern Tryz.func168 (by kernel_rfl) (by kernel_rfl) (by kernel_rfl) (e:=Extern.ReflectliteSwapper.swapper "internal/reflectlite" (Extern.ReflectliteValue.valueError "Swapper")) (by kernel_rfl) _ w
 have fin: ∀v,(callFunc 168 #[.iface 39 (.slice p n cap)]).run Tryz.prog w= .ok (.value v) w→aI w P adr (uS n) v→sM Tryz.prog 168 #[.iface 39 (.slice p n cap)] w fun e w'=> ∃v,e= .returned v∧∃P' adr',aQ w' P' adr' (VM.get (aR n t))∧aI w' P' adr' (uS n) v∧bg w w' P P' adr adr'∧(∀c,c < 2→adr' c=adr c)∧(∀c,2≤c→adr' c=none)∧
   (∀c g,adr' c=some g→w.heap.size≤g∨∃c0,adr c0=some g)∧(∀b o,P' b o→P b o∨w.heap.size≤b∨∃c0,adr c0=some b)∧bl (fun g=> ∃c0,adr c0=some g) w w':=
  fun v hv hr=>⟨_,_,hv,_,rfl,P,adr,hI,hr,bg.refl _ _ _,fun _ _=>rfl,hn,fun c g hc=> .inr ⟨c,hc⟩,fun b o ho=> .inl ho,bl.refl _ _⟩
 match n with
 | 0=>
  rw [run_swapper_slice _ _ CT CU uQ uR CW 25 CX p 0 cap 206 (by kernel_rfl)] at hf;exact fin _ hf (.val _ (.fn [] rfl fun j m q h=>by simp at h))
 | 1=>
  rw [run_swapper_slice _ _ CT CU uQ uR CW 25 CX p 1 cap 207 (by kernel_rfl)] at hf;exact fin _ hf (.val _ (.fn [] rfl fun j m q h=>by simp at h))
 | k + 2=>
  have hk:=P6 (k + 2) om;rw [run_swapper_slice _ _ CT CU uQ uR CW 25 CX p (k + 2) cap 214 (by rw [hk];kernel_rfl),hk] at hf;refine fin _ hf ?_;have e:uS (k + 2)= .fn 214 [.ms 1 41 0 (k + 2),CS 64] :=by unfold uS;rw [if_neg om,if_neg om]
  rw [e];exact .val _ (.fn [[.slice p (k + 2) cap],[typeHandle Tryz.prog 64]] rfl fun j m q hm hq=>by
   match j with
   | 0=>simp at hm hq;subst hm hq;exact hr
   | 1=>simp at hm hq;subst hm hq;exact .gp
   | j + 2=>simp at hm)
end
section
variable {G:GS}
theorem Jt (c:List Ent) (k:Nat) (e:Ent):setL (c.map aA) (0 + k) (aA e)=(c.set k e).map aA:=by rw [setL_eq,Nat.zero_add,List.map_set]
theorem Gx (l:List Ent) (hl:l.length < 1000000000):aH Tryz.prog G 142 [.ms 0 41 0 l.length] [(0,⟨64,41,true,0,l.map aA⟩)] 1 (.tup []) [(0,⟨64,41,true,0,l.reverse.map aA⟩)] 1:=by
 refine bR seat Tryz.func142 28 ?_;refine ae ?_;refine ar (Nat×List Ent×List Ent×List Ent) (fun x=> [(3, .int .i64 ((l.length:Int) - 1 - x.1)),(2, .int .i64 x.1),(0, .ms 0 41 0 l.length)]) (fun x=> [(0,⟨64,41,true,0,(x.2.1 ++ (x.2.2.1 ++ x.2.2.2)).map aA⟩)]) 1 (fun x=>x.2.1.length=x.1∧x.2.2.2.length=x.1∧x.1 + x.2.2.1.length + x.1=l.length∧l.reverse=x.2.1 ++ (x.2.2.1.reverse ++ x.2.2.2)) (fun x=>x.2.2.1.length) (0,[],l,[]) ⟨rfl,rfl,sm,sm⟩ ?_ ?_
 ·dsimp only;rw [b₄,a₄];exact(vm [] [])
 rintro⟨i,A,M,B⟩ ⟨h1,h2,h3,h4⟩;try dsimp only
 dsimp only at h1 h2 h3 h4;refine ae ?_;refine ad rfl (fun hd=>?_) (fun hd=>?_)
 ·have hlt:2≤M.length:=by have:=ot hd;omega
  obtain⟨x,M',rfl⟩: ∃x M',M=x :: M':=by cases M with | nil=>simp at hlt | cons x M'=>exact ⟨x,M',rfl⟩
  obtain⟨M,y,rfl,hM⟩:=OK M' (k:=M'.length - 1) (by simp at hlt;omega);have hML:(x :: (M ++ [y])).length=M.length + 2:=sm;rw [hML] at h3 hlt;clear hM;have hc:A ++ ((x :: (M ++ [y])) ++ B)=A ++ x :: (M ++ y :: B):=sm;have hsw:CQ (A ++ x :: (M ++ y :: B)) i (l.length - 1 - i)=A ++ y :: (M ++ x :: B):=mz h1 om;have hlen:(A ++ x :: (M ++ y :: B)).length=l.length:=by simp;omega
  have hx:(A ++ x :: (M ++ y :: B))[i]? =some x:=by subst h1;simp
  have hy:(A ++ x :: (M ++ y :: B))[l.length - 1 - i]? =some y:=by
   have e:A ++ x :: (M ++ y :: B)=(A ++ x :: M) ++ y :: B:=sm;rw [e,a₁ (by simp;omega),show l.length - 1 - i - (A ++ x :: M).length=0 by simp;omega];rfl
  have hset:((A ++ x :: (M ++ y :: B)).set i y).set (l.length - 1 - i) x=A ++ y :: (M ++ x :: B):=by
   rw [← hsw];unfold CQ;rw [hx,hy]
  rw [hc,show ((l.length:Int) - 1 - i)=((l.length - 1 - i:Nat):Int) by omega];generalize hC:A ++ x :: (M ++ y :: B)=c at *;generalize hJ:l.length - 1 - i=j at *;have f1:=al.mk (Ay hy);have f2:=al.mk (Ay hx);have f3:=aT.mk (Jt c i y);have f4:=al.mk (Ay (c:=c.set i y) (k:=j) (e:=y) (by rw [List.getElem?_set_ne om];exact hy));have f5:aT (setL ((c.set i y).map aA) (0 + j) (aA x)) ((A ++ y :: (M ++ x :: B)).map aA):=aT.mk (by rw [Jt,hset]);refine ae ?_;refine aw [ag 0,ag 1,ag 2,ag 3,ag 4,ag 5,ag 6,ag 7,ag 8,ag 9,ag 10,ag 11,ag 12,ag 13,ag 14,ag 15] ?_;refine ae ?_;refine⟨(i + 1,A ++ [y],M,x :: B),⟨by simp [h1],by simp [h2],by show i + 1 + M.length + (i + 1)=l.length;omega,by rw [h4];simp⟩,by show M.length < (x :: (M ++ [y])).length;rw [hML];omega,?_⟩;try dsimp only
  rw [show (A ++ [y]) ++ (M ++ x :: B)=A ++ y :: (M ++ x :: B) by simp];exact(vm [] [])
 ·have hlt:M.length≤1:=by have:=oF hd;omega
  have hM:M.reverse=M:=by
   match M,hlt with
   | [],_=>rfl
   | [x],_=>rfl
   | _ :: _ :: _,h=>simp at h
  rw [hM] at h4;rw [h4];refine ae ?_;exact en []
end
section
variable {G:GS}
abbrev Ey:MV:= .fn 144 [.ptr 0 1 0 0 []]
theorem Ju (n:Nat) (hn:n≤1) (t:List TE) (f:FuncId):aH Tryz.prog G 215 [.st [Ey, .fn f []], .int .i64 0, .int .i64 n] (aR n t) 2 (.tup []) (aR n t) 2:=by
 refine bR seat Tryz.func215 35 ?_;refine ae ?_;refine ar Unit (fun _=> [(6, .int .i64 1),(2, .int .i64 n)]) (fun _=>aR n t) 2 (fun _=>True) (fun _=>0) () trivial (vm [] []) ?_;intro _ _;refine ae ?_;refine ad rfl ?_ ?_ <;> intro h
 ·exfalso;have:=ot h;omega
 ·refine ae ?_;exact en []
theorem rA (n:Nat) (hn:n≤1) (t:List TE) (f:FuncId):aH Tryz.prog G 169 [.st [Ey, .fn f []], .int .i64 n] (aR n t) 2 (.tup []) (aR n t) 2:=by
 refine bR seat Tryz.func169 57 ?_;refine ae ?_;refine ar Unit (fun _=> [(6, .int .i64 20),(5, .int .i64 0),(4, .int .i64 20),(2, .ptr 2 2 0 0 []),(1, .int .i64 n)]) (fun _=>aR n t ++ [(2,⟨229,2,false,0,[.st [Ey, .fn f []]]⟩)]) 3 (fun _=>True) (fun _=>0) () trivial (vm [(2,_)] []) ?_;intro _ _;refine ae ?_;refine ad rfl ?_ ?_ <;> intro h
 ·exfalso;have:=ot h;omega
 ·refine ae ?_;refine yc (Ju n hn t f) [(0,0),(1,1)] ?_;refine ae ?_;refine ar Unit (fun _=> [(4, .int .i64 20),(1, .int .i64 n)]) (fun _=>aR n t) 2 (fun _=>True) (fun _=>0) () trivial (vm [] []) ?_;intro _ _;refine ae ?_;refine ad rfl ?_ ?_ <;> intro h
  ·exfalso;have:=ot h;omega
  ·refine ae ?_;exact en []
theorem vL (n:Nat) (hN:n < 288230376151711744) (t:List TE) (hn:t.length=n) (ht:k8 t):aH Tryz.prog G 143 [.ifc 39 (.ms 1 41 0 n),Ey] (aR n t) 2 (.tup []) (aR n (eu t)) 2:=by
 have hsw:=Gw (G:=G) n t;by_cases h0:n=0
 ·have e:uS n= .fn 206 [] :=by unfold uS;rw [if_pos h0]
  rw [e] at hsw;have hst:=rA (G:=G) n om t 206;rw [yF om];refine bR seat Tryz.func143 16 ?_;refine ae ?_;refine dG rfl (fun _ h=>h) rfl (qD n t) [(0,0),(1,1)] [] ⟨rfl,trivial,rfl,lm,mm⟩ rfl rfl ?_;refine ae ?_;refine dG rfl (fun _ h=>h) rfl (hsw) [(0,0),(1,1)] [] ⟨rfl,trivial,rfl,lm,mm⟩ rfl rfl ?_;refine ae ?_;refine dG rfl (fun _ h=>h) rfl (nV n t) [(0,_),(1,1)] [] ⟨rfl,trivial,rfl,lm,mm⟩ rfl rfl ?_;refine ae ?_;refine yc (hst) [(0,0),(1,1)] ?_;refine ae ?_;exact en []
 by_cases h1:n=1
 ·have e:uS n= .fn 207 [] :=by unfold uS;rw [if_neg h0,if_pos h1]
  rw [e] at hsw;have hst:=rA (G:=G) n om t 207;rw [yF om];refine bR seat Tryz.func143 16 ?_;refine ae ?_;refine dG rfl (fun _ h=>h) rfl (qD n t) [(0,0),(1,1)] [] ⟨rfl,trivial,rfl,lm,mm⟩ rfl rfl ?_;refine ae ?_;refine dG rfl (fun _ h=>h) rfl (hsw) [(0,0),(1,1)] [] ⟨rfl,trivial,rfl,lm,mm⟩ rfl rfl ?_;refine ae ?_;refine dG rfl (fun _ h=>h) rfl (nV n t) [(0,_),(1,1)] [] ⟨rfl,trivial,rfl,lm,mm⟩ rfl rfl ?_;refine ae ?_;refine yc (hst) [(0,0),(1,1)] ?_;refine ae ?_;exact en []
 have e:uS n= .fn 214 [.ms 1 41 0 n,CS 64] :=by unfold uS;rw [if_neg h0,if_neg h1]
 rw [e] at hsw;have hst:=Jq (G:=G) n hN t hn ht;unfold dL at hst;refine bR seat Tryz.func143 16 ?_;refine ae ?_;refine dG rfl (fun _ h=>h) rfl (qD n t) [(0,0),(1,1)] [] ⟨rfl,trivial,rfl,lm,mm⟩ rfl rfl ?_;refine ae ?_;refine dG rfl (fun _ h=>h) rfl (hsw) [(0,0),(1,1)] [] ⟨rfl,trivial,rfl,lm,mm⟩ rfl rfl ?_;refine ae ?_;refine dG rfl (fun _ h=>h) rfl (nV n t) [(0,_),(1,1)] [] ⟨rfl,trivial,rfl,lm,mm⟩ rfl rfl ?_;refine ae ?_;refine yc (hst) [(0,0),(1,1)] ?_;refine ae ?_;exact en []
theorem LR (l:List Ent) (hl:l.length < 1000000) (hok: ∀e∈l,e.raw.length < 536870912∧e.peers.length < 536870912):aH Tryz.prog G 102 [.sl l.length (l.map aA)] [] 0 (.sl l.length ((aB l).map aA)) [] 0:=by
 have hsort:=vL (G:=G) l.length om (tag 0 l.reverse) (by rw [tag_len];simp) (Jh _ _);have e1:(tag 0 l.reverse).map Ev=l.reverse.map aA:=by
  have:(tag 0 l.reverse).map Ev=((tag 0 l.reverse).map (·.1)).map aA:=by rw [b₅];rfl
  rw [this,Eu]
 have e2:(eu (tag 0 l.reverse)).map Ev=(aB l).map aA:=by
  have:(eu (tag 0 l.reverse)).map Ev=((eu (tag 0 l.reverse)).map (·.1)).map aA:=by rw [b₅];rfl
  rw [this,yD];rfl
 have e3:(aB l).length=l.length:=by
  have:=congrArg List.length (yD 0 l.reverse);rw [a₅,(bo _).length_eq,tag_len,List.length_reverse] at this;exact this.symm
 unfold aR LL at hsort;rw [e1,e2] at hsort;have hrev:=Gx (G:=G) l om;refine bR seat Tryz.func102 13 ?_;refine ae ?_;refine yc (pG l hl hok) [] ?_;refine ae ?_;refine bQ rfl (fun _ h=>h) rfl (hrev) [(0,_)] [] ⟨rfl,trivial,rfl,lm,mm⟩ rfl rfl ?_;refine ae ?_;refine bQ rfl (fun _ h=>h) rfl (hsort) [(0,_),(1,_)] [] ⟨rfl,trivial,rfl,lm,mm⟩ rfl rfl ?_;refine ae ?_;refine⟨[_],[],[(2,l.length)],rfl,rfl,?_,rfl,⟨?_,trivial⟩,?_⟩
 ·exact⟨by show l.length≤((aB l).map aA).length;rw [a₅,e3];exact a₂ _,trivial⟩
 ·exact .inr ⟨rfl,rfl,rfl,Nat.le_of_eq (c₃ _),by rw [← e3];exact bT aA _⟩
 ·exact mm
end
section
variable {G:GS}
theorem OL (s:Int) (h:s < 9223372036854775808):IntKind.u64.wrap (if (0:Int) > s then 0 else s)=max s 0:=by
 by_cases hs:(0:Int) > s
 ·rw [if_pos hs,bt 0 om om];omega
 ·rw [if_neg hs,bt s om om];omega
def Jv (x:Int):MB:=⟨3,1,false,0,[.int .i64 x]⟩
def Ez (c b s t m:Int):VM:= [(0,Jv c),(1,Jv t),(2,Jv m),(3,Jv b),(4,Jv s)]
theorem yI (c b s t m:Int) (hb:0≤b∧b < 4611686018427387904) (hs:s < 9223372036854775808) (hm:m < 9223372036854775808) :
  aH Tryz.prog G 101 [.ptr 0 1 0 0 [], .ptr 1 1 0 0 [], .ptr 2 1 0 0 [], .ptr 3 1 0 0 [], .ptr 4 1 0 0 []] (Ez c b s t m) 5 (.bool (fY c b s t m)) (Ez c b s t m) 5:=by
 unfold fY
 refine bR seat Tryz.func101 24 ?_
 refine ae ?_
 refine ah rfl rfl ?_ rfl ?_ <;> intro h
 ·have h0:=ot h
  refine ae ?_
  refine ah rfl rfl ?_ rfl ?_ <;> intro h
  ·have h1:=ot h
   (have fct:=aT.mk (OL s hs);refine ae ?_)
   refine⟨[_],[],[],rfl,rfl,trivial,rfl,⟨?_,trivial⟩,?_⟩
   ·exact⟨congrArg MV.bool (decide_eq_decide.2 om),rfl⟩
   ·exact mm
  ·have h2: ¬ 0≤m:=oF (by simpa using h)
   refine ae ?_
   refine⟨[_],[],[],rfl,rfl,trivial,rfl,⟨?_,trivial⟩,?_⟩
   ·exact⟨congrArg MV.bool (decide_eq_false om),rfl⟩
   ·exact mm
 ·have h2: ¬ c < t:=oF (by simpa using h)
  refine ae ?_
  refine⟨[_],[],[],rfl,rfl,trivial,rfl,⟨?_,trivial⟩,?_⟩
  ·exact⟨congrArg MV.bool (decide_eq_false om),rfl⟩
  ·exact mm
theorem Jw (l:List Ent) (hl:l.length < 1000000) (hok: ∀e∈l,e.raw.length≤1000000∧e.peers.length < 536870912) (p s t m:Int) (hs: -9223372036854775808≤s∧s < 9223372036854775808) (hm:m < 9223372036854775808) :
  aH Tryz.prog G 55 [.sl l.length (l.map aA), .int .u64 p, .int .i64 s, .int .i64 t, .int .i64 m] [] 0 (.tup [.ms 0 32 0 (cV p s t m l).1.length, .bool (cV p s t m l).2]) (mw (cV p s t m l).1) 1:=by
 have hOp:=ja l
 have hOl:(aB l).length=l.length:=hOp.length_eq
 have hOb:bytesS (aB l)=bytesS l:=kX hOp
 have hord:=LR (G:=G) l hl fun e he=>⟨by have:=(hok e he).1;omega,(hok e he).2⟩
 unfold mw
 refine bR seat Tryz.func55 67 ?_
 refine ae ?_
 refine ar Nat (fun k=> [(24, .int .i64 k),(23, .int .i64 l.length),(22, .sl l.length (l.map aA)),(13, .ptr 3 1 0 0 []),(12, .ptr 0 1 0 0 []),(9, .ptr 2 1 0 0 []),(8, .ptr 1 1 0 0 []),(7, .ptr 4 1 0 0 []),(1, .int .u64 p),(0, .sl l.length (l.map aA))]) (fun k=>Ez l.length (bytesS (l.take k)) s t m) 5 (fun k=>k≤l.length) (fun k=>l.length - k) 0 (a₆ _) (vm [(0,_),(1,_),(2,_),(3,_),(4,_)] []) ?_
 intro k hk
 try dsimp only
 refine ae ?_
 refine ad rfl ?_ ?_ <;> intro h
 ·have hk':k < l.length:=by have:=ot h;omega
  have hke:=(hok _ (c₉ hk')).1
  have hb:=mU l 1000000 (fun e he=>(hok e he).1) k
  have hs2:=fN l hk'
  (have fct:=al.mk (eF hk');refine ae ?_)
  refine⟨k + 1,by show k + 1≤l.length;omega,by show l.length - (k + 1) < l.length - k;omega,?_⟩
  dsimp only
  rw [hs2]
  exact(vm [(0,_),(1,_),(2,_),(3,_),(4,_)] [])
 ·have hk':k=l.length:=by have:=oF h;omega
  subst hk'
  rw [c₀]
  refine ae ?_
  refine jS (hord) ?_
  refine ar Nat (fun k=> [(38, .int .i64 k),(37, .int .i64 l.length),(36, .sl l.length ((aB l).map aA)),(17, .ms 5 32 0 k),(16, .fn 101 [.ptr 0 1 0 0 [], .ptr 1 1 0 0 [], .ptr 2 1 0 0 [], .ptr 3 1 0 0 [], .ptr 4 1 0 0 []]),(13, .ptr 3 1 0 0 []),(12, .ptr 0 1 0 0 []),(1, .int .u64 p)]) (fun k=>Ez ((l.length:Int) - k) ((bytesS l:Int) - bytesS ((aB l).take k)) s t m ++ [(5,⟨55,32,true,0,((aB l).take k).map fun e=>keyM e.key⟩)]) 6 (fun k=>k≤l.length∧Ig p s t m (aB l) l.length (bytesS l) k) (fun k=>l.length - k) 0 ⟨a₆ _,?_⟩ ?_ ?_
  ·refine⟨(selG p s t m (aB l) l.length (bytesS l)).1,(selG p s t m (aB l) l.length (bytesS l)).2.1,(selG p s t m (aB l) l.length (bytesS l)).2.2,?_,rfl⟩
   simp [bytesS]
  ·try dsimp only
   rw [show ((bytesS l:Int) - bytesS ((aB l).take 0))=bytesS l by simp [bytesS]]
   exact(vm [(0,_),(1,_),(2,_),(3,_),(4,_)] [])
  rintro k ⟨hk1,hI⟩
  try dsimp only
  have hbk:bytesS ((aB l).take k)≤bytesS l:=by
   have:=fZ (aB l) k
   omega
  have hB:=mU l 1000000 (fun e he=>(hok e he).1) l.length
  rw [c₀] at hB
  refine ae ?_
  refine ad rfl ?_ ?_ <;> intro h
  ·have hk':k < l.length:=by have:=ot h;omega
   have hkO:k < (aB l).length:=om
   have hs2:=fN (aB l) hkO
   have hbk2:bytesS ((aB l).take (k + 1))≤bytesS l:=by
    have:=fZ (aB l) (k + 1)
    omega
   have hroom:=yI (G:=G) ((l.length:Int) - k) ((bytesS l:Int) - bytesS ((aB l).take k)) s t m om hs.2 hm
   cases hr:fY ((l.length:Int) - k) ((bytesS l:Int) - bytesS ((aB l).take k)) s t m with
   | true=>
    have hsel:=jb hI (.inr ⟨hkO,by rw [hr];rfl⟩)
    rw [hr] at hroom
    (have fct:=al.mk (ub hOl hk');refine ae ?_)
    refine yc (hroom) [(0,0),(1,1),(2,2),(3,3),(4,4)] ?_
    have hcall:=yI (G:=G) ((l.length:Int) - k) ((bytesS l:Int) - bytesS ((aB l).take k)) s t m om hs.2 hm
    cases hroom:fY ((l.length:Int) - k) ((bytesS l:Int) - bytesS ((aB l).take k)) s t m with
    | true=>
     rw [hroom] at hcall
     rw [show cV p s t m l=(((aB l).take k).map (·.key),true) by unfold cV;rw [hsel];simp only [hroom]]
     dsimp only
     rw [b₅,a₅,show ((aB l).take k).length=k by rw [c₁];omega]
     refine ae ?_
     refine yc (hcall) [(0,0),(1,1),(2,2),(3,3),(4,4)] ?_
     refine ae ?_
     exact eb [_,_] [(0,5)] []
    | false=>
     rw [hroom] at hcall
     rw [show cV p s t m l=([],false) by unfold cV;rw [hsel];simp only [hroom]]
     refine ae ?_
     refine yc (hcall) [(0,0),(1,1),(2,2),(3,3),(4,4)] ?_
     refine ae ?_
     exact en [_,_]
   | false=>
    rw [hr] at hroom
    (have fct:=al.mk (ub hOl hk');refine ae ?_)
    refine yc (hroom) [(0,0),(1,1),(2,2),(3,3),(4,4)] ?_
    refine ae ?_
    refine ad rfl ?_ ?_ <;> intro h
    ·have hp:=ot h
     have hsel:=jb hI (.inr ⟨hkO,by rw [hr];simpa using hp⟩)
     have hcall:=yI (G:=G) ((l.length:Int) - k) ((bytesS l:Int) - bytesS ((aB l).take k)) s t m om hs.2 hm
     cases hroom:fY ((l.length:Int) - k) ((bytesS l:Int) - bytesS ((aB l).take k)) s t m with
     | true=>
      rw [hroom] at hcall
      rw [show cV p s t m l=(((aB l).take k).map (·.key),true) by unfold cV;rw [hsel];simp only [hroom]]
      dsimp only
      rw [b₅,a₅,show ((aB l).take k).length=k by rw [c₁];omega]
      refine ae ?_
      refine yc (hcall) [(0,0),(1,1),(2,2),(3,3),(4,4)] ?_
      refine ae ?_
      exact eb [_,_] [(0,5)] []
     | false=>
      rw [hroom] at hcall
      rw [show cV p s t m l=([],false) by unfold cV;rw [hsel];simp only [hroom]]
      refine ae ?_
      refine yc (hcall) [(0,0),(1,1),(2,2),(3,3),(4,4)] ?_
      refine ae ?_
      exact en [_,_]
    ·have hp:=oF h
     have hstep:=qn hkO hI (by rw [hr];simpa using hp)
     refine ae ?_
     refine aY rfl rfl (by intro R hR;refine dM hR ?_;(refine c₄ (a₂ _) ?_;refine⟨_,rfl,?_⟩;refine c₄ ⟨(by simp;omega),aE (by kernel_rfl) pf⟩ ?_;refine⟨((aB l).take (k + 1)).map fun e=>keyM e.key,sv (by rw [List.take_succ_eq_append_getElem hkO,d₀];rfl),k + 1,sv pf,?_⟩);exact hR) rfl ?_
     refine ae ?_
     exact⟨k + 1,⟨om,hstep⟩,by show l.length - (k + 1) < l.length - k;omega,(by dsimp only;exact(vm [(0,_),(1,_),(2,_),(3,_),(4,_),(5,_)] []))⟩
  ·have hk':k=l.length:=by have:=oF h;omega
   have hsel:=jb hI (.inl om)
   have hcall:=yI (G:=G) ((l.length:Int) - k) ((bytesS l:Int) - bytesS ((aB l).take k)) s t m om hs.2 hm
   cases hroom:fY ((l.length:Int) - k) ((bytesS l:Int) - bytesS ((aB l).take k)) s t m with
   | true=>
    rw [hroom] at hcall
    rw [show cV p s t m l=(((aB l).take k).map (·.key),true) by unfold cV;rw [hsel];simp only [hroom]]
    dsimp only
    rw [b₅,a₅,show ((aB l).take k).length=k by rw [c₁];omega]
    refine ae ?_
    refine yc (hcall) [(0,0),(1,1),(2,2),(3,3),(4,4)] ?_
    refine ae ?_
    exact eb [_,_] [(0,5)] []
   | false=>
    rw [hroom] at hcall
    rw [show cV p s t m l=([],false) by unfold cV;rw [hsel];simp only [hroom]]
    refine ae ?_
    refine yc (hcall) [(0,0),(1,1),(2,2),(3,3),(4,4)] ?_
    refine ae ?_
    exact en [_,_]
end
section
variable {G:GS}
attribute [local irreducible] aj aC aG aL aO vC aU au
structure LS (c:ll):Prop where
 h1:Aw c.maxTxs
 h2:Aw c.maxBytes
 h3:Aw c.maxTx
 h4:Aw c.cache
 h5:Aw c.ttlB
 h6:Aw c.ttlT
 h7:Aw c.blkB
 h8:Aw c.blkG
 h9:bh c.price
 h10:Aw c.self
 h11:Aw c.nodes
def fI (c:ll):Nat→Int
 | 0=>c.maxTxs
 | 1=>c.maxBytes
 | 2=>c.maxTx
 | 3=>c.cache
 | 4=>c.ttlB
 | 5=>c.ttlT
 | 6=>if c.keep then 1 else 0
 | 7=>c.blkB
 | 8=>c.blkG
 | 9=>0
 | 10=>c.self
 | _=>c.nodes
def loI:Nat→Int
 | 0 | 1 | 2 | 7 | 11=>1
 | 8=> -1
 | _=>0
def hiI:Nat→Int
 | 0=>512
 | 1 | 7=>1048576
 | 2=>4096
 | 3=>1024
 | 4 | 5=>1073741824
 | 6=>1
 | 8=>1125899906842624
 | 9=>0
 | 10=>7
 | _=>8
def qE (c:ll) (k:Nat):Bool:=decide (loI k≤fI c k) && decide (fI c k≤hiI k)
def np (c:ll):Nat→Bool
 | 0=>true
 | k + 1=>np c k && qE c k
def jf (c:ll):Int:=if np c 12=true∧c.self < c.nodes then 0 else 1
theorem qF {k:Nat} (hk:k < 12):k=0∨k=1∨k=2∨k=3∨k=4∨k=5∨k=6∨k=7∨k=8∨k=9∨k=10∨k=11:=om
theorem uT {c:ll} {k:Nat} (h:qE c k=false): ∀{n:Nat},k < n→np c n=false
 | 0,hn=>by omega
 | n + 1,hn=>by
  by_cases e:k=n
  ·subst e;simp [np,h]
  ·simp [np,uT h (show k < n by omega)]
theorem wY {c:ll} {k:Nat} (hk:k < 12) (h:qE c k=false):jf c=1:=by simp [jf,uT h hk]
theorem wZ {c:ll} (h:np c 12=true):jf c=if c.self < c.nodes then 0 else 1:=by simp [jf,h]
theorem rkeys_s:aD Tryz.prog G 82 [] (.sl 12 [.str [109,97,120,45,116,120,115], .str [109,97,120,45,98,121,116,101,115], .str [109,97,120,45,116,120,45,98,121,116,101,115], .str [99,97,99,104,101,45,115,105,122,101], .str [116,116,108,45,98,108,111,99,107,115], .str [116,116,108,45,116,105,109,101], .str [107,101,101,112,45,105,110,118,97,108,105,100], .str [98,108,111,99,107,45,98,121,116,101,115], .str [98,108,111,99,107,45,103,97,115], .str [112,114,105,99,101], .str [115,101,108,102], .str [110,111,100,101,115]]):=by
 refine aZ seat Tryz.func82 2 ?_;refine ae ?_
 conv=>whnf
 exact⟨by decide,_,rfl,rfl⟩
theorem Jx {k:Nat} (hk:k < 12):aD Tryz.prog G 84 [.int .i64 k] (.int .i64 (loI k)):=by
 have hel:bH [.int .i64 1, .int .i64 1, .int .i64 1, .int .i64 0, .int .i64 0, .int .i64 0, .int .i64 0, .int .i64 1, .int .i64 (-1), .int .i64 0, .int .i64 0, .int .i64 1] (0 + k)=some (.int .i64 (loI k)):=by
  rcases qF hk with rfl | rfl | rfl | rfl | rfl | rfl | rfl | rfl | rfl | rfl | rfl | rfl <;> rfl
 have hel:=al.mk hel;have hix:=al.mk (ca hk);refine aZ seat Tryz.func84 7 ?_;refine ae ?_;refine av ?_;rfl
theorem Jy {k:Nat} (hk:k < 12):aD Tryz.prog G 85 [.int .i64 k] (.int .i64 (hiI k)):=by
 have hel:bH [.int .i64 512, .int .i64 1048576, .int .i64 4096, .int .i64 1024, .int .i64 1073741824, .int .i64 1073741824, .int .i64 1, .int .i64 1048576, .int .i64 1125899906842624, .int .i64 0, .int .i64 7, .int .i64 8] (0 + k)=some (.int .i64 (hiI k)):=by
  rcases qF hk with rfl | rfl | rfl | rfl | rfl | rfl | rfl | rfl | rfl | rfl | rfl | rfl <;> rfl
 have hel:=al.mk hel;have hix:=al.mk (ca hk);refine aZ seat Tryz.func85 7 ?_;refine ae ?_;refine av ?_;rfl
theorem NF (c:ll) {k:Nat} (hk:k < 12):aD Tryz.prog G 83 [cfM c, .int .i64 k] (.int .i64 (fI c k)):=by
 have hel:bH [.int .i64 c.maxTxs, .int .i64 c.maxBytes, .int .i64 c.maxTx, .int .i64 c.cache, .int .i64 c.ttlB, .int .i64 c.ttlT, .int .i64 (if c.keep then 1 else 0), .int .i64 c.blkB, .int .i64 c.blkG, .int .i64 0, .int .i64 c.self, .int .i64 c.nodes] (0 + k)=some (.int .i64 (fI c k)):=by
  rcases qF hk with rfl | rfl | rfl | rfl | rfl | rfl | rfl | rfl | rfl | rfl | rfl | rfl <;> rfl
 generalize fI c k=x at *;obtain⟨c0,c1,c2,c3,c4,c5,c6,c7,c8,c9,c10,c11⟩:=c;have hix:=al.mk (ca hk);cases c6 <;>
 ·have hel:=al.mk hel;refine aZ seat Tryz.func83 33 ?_;refine ae ?_;refine av ?_;rfl
theorem Jz (c:ll):aD Tryz.prog G 43 [cfM c] (.int .i64 (jf c)):=by
 have cv: ∀k,k < 12→_:=fun k hk=>NF (G:=G) c (k:=k) hk
 have hb: ∀k,k < 12→qE c k=false→_:=fun k hk=>wY (c:=c) hk
 have hend:=wZ (c:=c);have hF: ∀k,qE c k=(decide (loI k≤fI c k) && decide (fI c k≤hiI k)):=fun _=>rfl
 have h9:qE c 9=true:=rfl;have hS: ∀k,np c (k + 1)=(np c k && qE c k):=fun _=>rfl
 have h0:np c 0=true:=rfl;refine aZ seat Tryz.func43 33 ?_;refine ae ?_;refine cC (rkeys_s) ?_;refine ar Nat (fun k=> [(6, .int .i64 k),(5, .int .i64 12),(1, .ptr 0 12 0 0 [])]) (fun _=> [(0,⟨24,12,false,0,[cfM c]⟩)]) 1 (fun k=>k≤12∧np c k=true) (fun k=>12 - k) 0 ⟨om,h0⟩ (vm [(0,_)] []) ?_;rintro k ⟨hk,hok⟩;try dsimp only
 refine ae ?_;refine ad rfl ?_ ?_ <;> intro h
 ·have hk':k < 12:=by have:=ot h;omega
  have cv:=cv k hk';have cl:=Jx (G:=G) hk';have cg:=Jy (G:=G) hk';have hb:=hb k hk';have hF:=hF k;have hS:=hS k;rw [hok] at hS;generalize fI c k=x at *;generalize loI k=lo at *;generalize hiI k=hi at *;by_cases e9:k=9
  ·subst e9;refine ae ?_;exact⟨9 + 1,⟨om,by rw [hS,h9];rfl⟩,by show 12 - (9 + 1) < 12 - 9;omega,(by dsimp only;exact(vm [(0,_)] []))⟩
  ·refine ae ?_;refine ah rfl rfl ?_ rfl ?_ <;> intro h
   rotate_left
   ·exfalso;simp at h;omega
   refine ae ?_;refine cC (cv) ?_;refine cC (cl) ?_;refine ah rfl rfl ?_ rfl ?_ <;> intro h
   ·have h1:=oF h;refine ae ?_;refine cC (cv) ?_;refine cC (cg) ?_;refine ad rfl ?_ ?_ <;> intro h
    ·have h2:=ot h;rw [hb (by rw [hF];simp;omega)];refine ae ?_;refine av ?_;rfl
    ·have h2:=oF h;refine ae ?_;exact⟨k + 1,⟨om,by rw [hS,hF];simp;omega⟩,by show 12 - (k + 1) < 12 - k;omega,(by dsimp only;exact(vm [(0,_)] []))⟩
   ·have h1:=ot h;rw [hb (by rw [hF];simp;omega)];refine ae ?_;refine av ?_;rfl
 ·have hk':k=12:=by have:=oF h;omega
  subst hk';rw [hend hok];refine ae ?_;refine ad rfl ?_ ?_ <;> intro h
  ·have h:=ot h;rw [if_neg om];refine ae ?_;refine av ?_;rfl
  ·have h:=oF h;rw [if_pos om];refine ae ?_;refine av ?_;rfl
abbrev wM (a:Int×Bool):MV:= .st [.int .u64 a.1, .bool a.2]
def lessB (a b:Int×Bool):Bool:=if (a.2 || b.2)=true then a.2 && !b.2 else decide (a.1 < b.1)
theorem JE (a b:Int×Bool):aD Tryz.prog G 119 [wM a,wM b] (.bool (lessB a b)):=by
 obtain⟨n,m⟩:=a;obtain⟨n',m'⟩:=b;cases m <;> cases m' <;>
 ·refine aZ seat Tryz.func119 23 ?_;refine ae ?_;refine av ?_;rfl
theorem pI (n:Int) (h0:0≤n) (h1:n < 9223372036854775808):aD Tryz.prog G 117 [.int .i64 n] (wM (n,false)):=by
 refine aZ seat Tryz.func117 6 ?_;refine ae ?_;refine av ?_;rfl
def O1:Nat→List UInt8
 | 0=> [109,97,120,45,116,120,115]
 | 1=> [109,97,120,45,98,121,116,101,115]
 | 2=> [109,97,120,45,116,120,45,98,121,116,101,115]
 | 3=> [99,97,99,104,101,45,115,105,122,101]
 | 4=> [116,116,108,45,98,108,111,99,107,115]
 | 5=> [116,116,108,45,116,105,109,101]
 | 6=> [107,101,101,112,45,105,110,118,97,108,105,100]
 | 7=> [98,108,111,99,107,45,98,121,116,101,115]
 | 8=> [98,108,111,99,107,45,103,97,115]
 | 9=> [112,114,105,99,101]
 | 10=> [115,101,108,102]
 | _=> [110,111,100,101,115]
def NG (k:Nat):Int×Bool:=if loI k= -1 then(0,true) else(loI k,false)
def NH:Nat→Int×Bool
 | 9=>(18446744073709551615,false)
 | k=>(hiI k,false)
def O2:Nat→Int×Bool
 | 0=>(100,false)
 | 1=>(65536,false)
 | 2=>(1024,false)
 | 3=>(200,false)
 | 7=>(32768,false)
 | 8=>(0,true)
 | 9 | 11=>(1,false)
 | _=>(0,false)
abbrev qG (k:Nat):MV:= .st [.str (O1 k),wM (NG k),wM (NH k),wM (O2 k)]
abbrev JF:List MV:= [qG 0,qG 1,qG 2,qG 3,qG 4,qG 5,qG 6,qG 7,qG 8,qG 9,qG 10,qG 11]
def iC (a b v:Int×Bool):Bool:= !lessB v a && !lessB b v
theorem NI:aD Tryz.prog G 77 [] (.arr 12 7 JF):=by
 have cn: ∀n:Nat,n < 9223372036854775808→aD Tryz.prog G 117 [.int .i64 n] (wM (n,false)):=fun n hn=>pI (G:=G) n om om
 refine aZ seat Tryz.func77 54 ?_;refine ae ?_;refine aw [de 0,de 1,de 2,ag 3,de 4,de 5,de 6,ag 7,de 8,de 9,de 10,ag 11,de 12,de 13,de 14,ag 15,de 16,de 17,de 18,ag 19,de 20,de 21,de 22,ag 23,de 24,de 25,de 26,ag 27,de 28,de 29,de 30,ag 31,ag 32,de 33,ag 34,ag 35,de 36,ag 37,de 38,ag 39,de 40,de 41,de 42,ag 43,de 44,de 45,de 46,ag 47,ag 48,ag 49] ?_;refine ae ?_;refine dk (cn 1 (by decide)) ?_;refine dk (cn 512 (by decide)) ?_;refine dk (cn 100 (by decide)) ?_;refine dk (cn 1 (by decide)) ?_;refine dk (cn 1048576 (by decide)) ?_;refine dk (cn 65536 (by decide)) ?_;refine dk (cn 1 (by decide)) ?_;refine dk (cn 4096 (by decide)) ?_;refine dk (cn 1024 (by decide)) ?_;refine dk (cn 0 (by decide)) ?_;refine dk (cn 1024 (by decide)) ?_;refine dk (cn 200 (by decide)) ?_;refine dk (cn 0 (by decide)) ?_;refine dk (cn 1073741824 (by decide)) ?_;refine dk (cn 0 (by decide)) ?_;refine dk (cn 0 (by decide)) ?_;refine dk (cn 1073741824 (by decide)) ?_;refine dk (cn 0 (by decide)) ?_;refine dk (cn 0 (by decide)) ?_;refine dk (cn 1 (by decide)) ?_;refine dk (cn 0 (by decide)) ?_;refine dk (cn 1 (by decide)) ?_;refine dk (cn 1048576 (by decide)) ?_;refine dk (cn 32768 (by decide)) ?_;refine dk (cn 1125899906842624 (by decide)) ?_;refine dk (cn 0 (by decide)) ?_;refine dk (cn 1 (by decide)) ?_;refine dk (cn 0 (by decide)) ?_;refine dk (cn 7 (by decide)) ?_;refine dk (cn 0 (by decide)) ?_;refine dk (cn 1 (by decide)) ?_;refine dk (cn 8 (by decide)) ?_;refine dk (cn 1 (by decide)) ?_;refine av ?_;rfl
theorem JG (nm:List UInt8) (a b d v:Int×Bool):aD Tryz.prog G 79 [.st [.str nm,wM a,wM b,wM d],wM v] (.bool (iC a b v)):=by
 have c1:=JE (G:=G) v a;have c2:=JE (G:=G) b v;unfold iC;generalize lessB v a=t1 at *;generalize lessB b v=t2 at *;refine aZ seat Tryz.func79 17 ?_;refine ae ?_;refine yv (c1) ?_;cases t1
 ·refine ae ?_;refine cC (c2) ?_;refine av ?_;rfl
 ·refine ae ?_;refine av ?_;rfl
abbrev Mq (Z:MV):List MV:= [.ep Z 0 [0], .ep Z 1 [1], .ep Z 2 [2], .ep Z 3 [3], .ep Z 4 [4], .ep Z 5 [5], .nilp, .ep Z 7 [7], .ep Z 8 [8], .nilp, .ep Z 10 [10], .ep Z 11 [11]]
theorem CY (Z:MV):aD Tryz.prog G 118 [.ep Z 0 []] (.arr 12 1 (Mq Z)):=by
 refine aZ seat Tryz.func118 34 ?_;refine ae ?_;refine aw [ag 0,ag 1,ag 2,ag 3,ag 4,ag 5,ag 6,ag 7,ag 8,ag 9,ag 10,ag 11,ag 12,ag 13,ag 14,ag 15,ag 16,ag 17,ag 18,ag 19,ag 20,ag 21,ag 22,ag 23,ag 24,ag 25,ag 26,ag 27,ag 28,ag 29,ag 30,ag 31] ?_;refine ae ?_;refine av ?_;rfl
def vI (p:Int):(Int×Bool)×Bool:=if p < -1 then((0,false),false) else if p= -1 then((0,true),true) else((p,false),true)
def vW (c:ll):Nat→(Int×Bool)×Bool
 | 6=>(if c.keep then(1,false) else(0,false),true)
 | 9=>((c.price,false),true)
 | k=>vI (fI c k)
abbrev vM (v:(Int×Bool)×Bool):MV:= .tup [wM v.1, .bool v.2]
theorem jz (c:ll) {k:Nat} (i:Nat) (x:Int) (hx:Aw x) (hk:cS (Mq (cfM c)) 12 (k:Int)=some (.ep (cfM c) i [i])) (hi:fb (cfM c) [i] i=some (.int .i64 x)):aD Tryz.prog G 78 [cfM c, .int .i64 k] (vM (vI x)):=by
 unfold Aw at hx;have ci:=CY (G:=G) (cfM c);have hk:=al.mk hk;have hi:=al.mk hi;refine aZ seat Tryz.func78 48 ?_;refine ae ?_;refine bV rfl (fun _ h=>h) rfl (aa ci) rfl [(0,1)] mm ⟨.inr ⟨rfl,b₂ 0,rfl,rfl,rfl,rfl⟩,trivial⟩ ?_;refine ae ?_;refine ad rfl ?_ ?_ <;> intro h
 ·have h:=ot h;unfold vI;rw [if_pos h];refine ae ?_;refine av ?_;rfl
 have h:=oF h;refine ae ?_;refine ad rfl ?_ ?_ <;> intro h
 ·have h2:=eq_of_beq h;subst h2;refine ae ?_;refine av ?_;rfl
 have h2:=ne_of_beq_false h;have cn:=pI (G:=G) x om om;refine ae ?_;refine yv (cn) ?_;unfold vI;rw [if_neg ‹_›,if_neg h2];refine ae ?_;refine av ?_;rfl
theorem NJ (c:ll):aD Tryz.prog G 78 [cfM c, .int .i64 (9:Nat)] (vM ((c.price,false),true)):=by
 have ci:=CY (G:=G) (cfM c);refine aZ seat Tryz.func78 48 ?_;refine ae ?_;refine bV rfl (fun _ h=>h) rfl (aa ci) rfl [(0,1)] mm ⟨.inr ⟨rfl,b₂ 0,rfl,rfl,rfl,rfl⟩,trivial⟩ ?_;refine ae ?_;refine av ?_;rfl
theorem NK (c:ll):aD Tryz.prog G 78 [cfM c, .int .i64 (6:Nat)] (vM (if c.keep then(1,false) else(0,false),true)):=by
 have ci:=CY (G:=G) (cfM c);have c0:=pI (G:=G) 0 (by decide) (by decide);have c1:=pI (G:=G) 1 (by decide) (by decide);obtain⟨d0,d1,d2,d3,d4,d5,d6,d7,d8,d9,d10,d11⟩:=c;cases d6
 ·refine aZ seat Tryz.func78 48 ?_;refine ae ?_;refine bV rfl (fun _ h=>h) rfl (aa ci) rfl [(0,1)] mm ⟨.inr ⟨rfl,b₂ 0,rfl,rfl,rfl,rfl⟩,trivial⟩ ?_;refine ae ?_;refine cC (c0) ?_;refine av ?_;rfl
 ·refine aZ seat Tryz.func78 48 ?_;refine ae ?_;refine bV rfl (fun _ h=>h) rfl (aa ci) rfl [(0,1)] mm ⟨.inr ⟨rfl,b₂ 0,rfl,rfl,rfl,rfl⟩,trivial⟩ ?_;refine ae ?_;refine cC (c1) ?_;refine av ?_;rfl
theorem LV (c:ll) (hc:LS c) {k:Nat} (hk:k < 12):aD Tryz.prog G 78 [cfM c, .int .i64 k] (vM (vW c k)):=by
 obtain⟨h1,h2,h3,h4,h5,h6,h7,h8,h9,h10,h11⟩:=hc;rcases qF hk with rfl | rfl | rfl | rfl | rfl | rfl | rfl | rfl | rfl | rfl | rfl | rfl
 ·exact jz c 0 _ h1 rfl rfl
 ·exact jz c 1 _ h2 rfl rfl
 ·exact jz c 2 _ h3 rfl rfl
 ·exact jz c 3 _ h4 rfl rfl
 ·exact jz c 4 _ h5 rfl rfl
 ·exact jz c 5 _ h6 rfl rfl
 ·exact NK c
 ·exact jz c 7 _ h7 rfl rfl
 ·exact jz c 8 _ h8 rfl rfl
 ·exact NJ c
 ·exact jz c 10 _ h10 rfl rfl
 ·exact jz c 11 _ h11 rfl rfl
def P7 (c:ll) (k:Nat):Bool:=(vW c k).2 && iC (NG k) (NH k) (vW c k).1
theorem LW {p lo hi:Int} {b:Bool} (h1:0≤lo) (h2:b=true→lo=0) (h3:0≤hi):((vI p).2 && iC (lo,b) (hi,false) (vI p).1)=(decide ((if b then -1 else lo)≤p) && decide (p≤hi)):=by
 unfold vI;by_cases hp:p < -1
 ·rw [if_pos hp];cases b <;> simp <;> omega
 ·rw [if_neg hp];by_cases hp2:p= -1
  ·rw [if_pos hp2];subst hp2;cases b <;> simp [iC,lessB] <;> omega
  ·rw [if_neg hp2];cases b
   ·simp [iC,lessB,← decide_not,Int.not_lt]
   ·have h4: -1≤p:=om;simp [iC,lessB,h4,← decide_not,Int.not_lt]
theorem NL {c:ll} (hc:LS c) {k:Nat} (hk:k < 12):P7 c k=qE c k:=by
 have hp:=hc.h9;unfold bh at hp;rcases qF hk with rfl | rfl | rfl | rfl | rfl | rfl | rfl | rfl | rfl | rfl | rfl | rfl
 case inr.inr.inr.inr.inr.inr.inl=>show (true && iC _ _ (if c.keep then(1,false) else(0,false)))=(decide (0≤if c.keep then(1:Int) else 0) && decide ((if c.keep then(1:Int) else 0)≤1));cases c.keep <;> rfl
 case inr.inr.inr.inr.inr.inr.inr.inr.inr.inl=>
  show(true && iC (0,false) (18446744073709551615,false) (c.price,false))=true
  simp [iC,lessB];omega
 all_goals exact LW (by decide) (by decide) (by decide)
theorem JH {k:Nat} (hk:k < 12):cS JF 12 (k:Int)=some (qG k):=by
 rcases qF hk with rfl | rfl | rfl | rfl | rfl | rfl | rfl | rfl | rfl | rfl | rfl | rfl <;> rfl
theorem JI (c:ll) (hc:LS c):aD Tryz.prog G 41 [cfM c] (.int .i64 (jf c)):=by
 have cr:=NI (G:=G);have cv: ∀k,k < 12→_:=fun k hk=>LV (G:=G) c hc (k:=k) hk
 have hb: ∀k,k < 12→qE c k=false→_:=fun k hk=>wY (c:=c) hk
 have hend:=wZ (c:=c);have hF: ∀k,k < 12→qE c k=((vW c k).2 && iC (NG k) (NH k) (vW c k).1):=fun k hk=>(NL hc hk).symm
 have hS: ∀k,np c (k + 1)=(np c k && qE c k):=fun _=>rfl
 have h0:np c 0=true:=rfl;have hat:=fun k (hk:k < 12)=>JH hk
 generalize JF=R at *;refine aZ seat Tryz.func41 32 ?_;refine ae ?_;refine cC (cr) ?_;refine ar Nat (fun k=> [(8, .int .i64 k),(7, .arr 12 7 R),(1, .ptr 0 12 0 0 [])]) (fun _=> [(0,⟨24,12,false,0,[cfM c]⟩)]) 1 (fun k=>k≤12∧np c k=true) (fun k=>12 - k) 0 ⟨om,h0⟩ (vm [(0,_)] []) ?_;rintro k ⟨hk,hok⟩;try dsimp only
 refine ae ?_;refine ad rfl ?_ ?_ <;> intro h
 ·have hk':k < 12:=by have:=ot h;omega
  have cv:=cv k hk';have hb:=hb k hk';have hF:=hF k hk';have hS:=hS k;have hel:al (cS R 12 (k:Int)) (.st [.str (O1 k),wM (NG k),wM (NH k),wM (O2 k)]):=al.mk (hat k hk');have cw:=fun v=>JG (G:=G) (O1 k) (NG k) (NH k) (O2 k) v
  rw [hok] at hS;generalize iC (NG k) (NH k)=W at *;generalize O1 k=nm at *;generalize NG k=lo at *;generalize NH k=hi at *;generalize O2 k=df at *;generalize vW c k=v at *;obtain⟨⟨v1,v2⟩,v3⟩:=v;obtain⟨l1,l2⟩:=lo;obtain⟨i1,i2⟩:=hi;obtain⟨d1,d2⟩:=df;have cw:=cw (v1,v2);dsimp only at *;generalize W (v1,v2)=t at *;refine ae ?_;refine yv (cv) ?_;cases v3
  ·refine ae ?_;rw [hb (by simp [hF])];refine av ?_;rfl
  ·refine ae ?_;refine yv (cw) ?_;cases t
   ·refine ae ?_;rw [hb (by simp [hF])];refine av ?_;rfl
   ·refine ae ?_;exact⟨k + 1,⟨om,by rw [hS,hF];rfl⟩,by show 12 - (k + 1) < 12 - k;omega,(by dsimp only;exact(vm [(0,_)] []))⟩
 ·have hk':k=12:=by have:=oF h;omega
  subst hk';rw [hend hok];refine ae ?_;refine ad rfl ?_ ?_ <;> intro h
  ·have h:=ot h;rw [if_neg om];refine ae ?_;refine av ?_;rfl
  ·have h:=oF h;rw [if_pos om];refine ae ?_;refine av ?_;rfl
theorem CZ {c:ll} (h:rJ c):LS c:=by
 obtain⟨h1,h2,h3,h4,h5,h6,h7,h8,h9,h10,h11⟩:=h;refine⟨?_,?_,?_,?_,?_,?_,?_,?_,h9,?_,?_⟩ <;> (unfold Aw;omega)
theorem C0 {c:ll} (h:rJ c):jf c=0:=by
 obtain⟨h1,h2,h3,h4,h5,h6,h7,h8,h9,h10,h11⟩:=h;have k6:qE c 6=true:=by
  show(decide (0≤if c.keep then(1:Int) else 0) && decide ((if c.keep then(1:Int) else 0)≤1))=true
  cases c.keep <;> rfl
 have hk:np c 12=true:=by
  simp only [np,k6];simp [qE,loI,hiI,fI];omega
 exact if_pos ⟨hk,h10.2⟩
end
end Go.Proofs.YthdhlcicpcnbhaaGreatDoor
namespace Go.Proofs
open Go.Shelf
def Tryz.sortAcc_ren:Go.Shelf.Ren:=⟨fun | 6=>122 | 15=>154 | 14=>153 | 28=>187 | 29=>188 | 20=>179 | 21=>180 | 22=>181 | 23=>182 | 24=>183 | 25=>184 | 26=>185 | 27=>186 | 46=>224 | 47=>225 | 48=>226 | 49=>227 | 50=>228 | 57=>245 | n=>n,fun | 22=>25 | 24=>87 | 25=>178 | 3=>3 | 39=>160 | 0=>0 | 53=>118 | 55=>22 | 4=>4 | 46=>241 | 45=>240 | 50=>210 | 5=>5 | 9=>9 | 66=>270 | 70=>165 | 76=>286 | 77=>287 | n=>n,fun | n=>n⟩
theorem Tryz.sortAcc:Go.Proofs.SlLaysF0.n6 Tryz.prog Tryz.sortAcc_ren:={
 mixed:=by kernel_rfl
 f6:=⟨Tryz.f122.name,by decide,Tryz.func122.trans (congrArg some (by kernel_rfl))⟩
 f14:=⟨Tryz.f153.name,by decide,Tryz.func153.trans (congrArg some (by kernel_rfl))⟩
 f15:=Tryz.func154.trans (congrArg some (by kernel_rfl))
 f20:=⟨Tryz.f179.name,by decide,Tryz.func179.trans (congrArg some (by kernel_rfl))⟩
 f21:=⟨Tryz.f180.name,by decide,Tryz.func180.trans (congrArg some (by kernel_rfl))⟩
 f22:=⟨Tryz.f181.name,by decide,Tryz.func181.trans (congrArg some (by kernel_rfl))⟩
 f23:=⟨Tryz.f182.name,by decide,Tryz.func182.trans (congrArg some (by kernel_rfl))⟩
 f24:=⟨Tryz.f183.name,by decide,Tryz.func183.trans (congrArg some (by kernel_rfl))⟩
 f25:=⟨Tryz.f184.name,by decide,Tryz.func184.trans (congrArg some (by kernel_rfl))⟩
 f26:=⟨Tryz.f185.name,by decide,Tryz.func185.trans (congrArg some (by kernel_rfl))⟩
 f27:=⟨Tryz.f186.name,by decide,Tryz.func186.trans (congrArg some (by kernel_rfl))⟩
 f28:=Tryz.func187.trans (congrArg some (by kernel_rfl))
 f29:=Tryz.func188.trans (congrArg some (by kernel_rfl))
 f46:=⟨Tryz.f224.name,by decide,Tryz.func224.trans (congrArg some (by kernel_rfl))⟩
 f47:=Tryz.func225.trans (congrArg some (by kernel_rfl))
 f48:=Tryz.func226.trans (congrArg some (by kernel_rfl))
 f49:=⟨Tryz.f227.name,by decide,Tryz.func227.trans (congrArg some (by kernel_rfl))⟩
 f50:=⟨Tryz.f228.name,by decide,Tryz.func228.trans (congrArg some (by kernel_rfl))⟩
 f57:=⟨Tryz.f245.name,by decide,Tryz.func245.trans (congrArg some (by kernel_rfl))⟩
 t0:=Tryz.underlying0
 a0:=Tryz.isAgg0
 z0:=Tryz.sizeOf0
 v0:=Tryz.zeroValue0
 t3:=Tryz.underlying3
 a3:=Tryz.isAgg3
 z3:=Tryz.sizeOf3
 v3:=Tryz.zeroValue3
 t4:=Tryz.underlying4
 a4:=Tryz.isAgg4
 z4:=Tryz.sizeOf4
 v4:=Tryz.zeroValue4
 t5:=Tryz.underlying5
 a5:=Tryz.isAgg5
 z5:=Tryz.sizeOf5
 v5:=Tryz.zeroValue5
 t9:=Tryz.underlying9
 a9:=Tryz.isAgg9
 z9:=Tryz.sizeOf9
 v9:=Tryz.zeroValue9
 t22:=Tryz.underlying25
 a22:=Tryz.isAgg25
 z22:=Tryz.sizeOf25
 v22:=Tryz.zeroValue25
 t25:=Tryz.underlying178
 a25:=Tryz.isAgg178
 z25:=Tryz.sizeOf178
 v25:=Tryz.zeroValue178
 t39:=Tryz.underlying160
 a39:=Tryz.isAgg160
 z39:=Tryz.sizeOf160
 v39:=Tryz.zeroValue160
 t45:=Tryz.underlying240
 a45:=Tryz.isAgg240
 z45:=Tryz.sizeOf240
 v45:=Tryz.zeroValue240
 t46:=Tryz.underlying241
 a46:=Tryz.isAgg241
 z46:=Tryz.sizeOf241
 v46:=Tryz.zeroValue241
 t50:=Tryz.underlying210
 a50:=Tryz.isAgg210
 z50:=Tryz.sizeOf210
 v50:=Tryz.zeroValue210
 t53:=Tryz.underlying118
 a53:=Tryz.isAgg118
 z53:=Tryz.sizeOf118
 v53:=Tryz.zeroValue118
 t55:=Tryz.underlying22
 a55:=Tryz.isAgg22
 z55:=Tryz.sizeOf22
 v55:=Tryz.zeroValue22
 t66:=Tryz.underlying270
 a66:=Tryz.isAgg270
 z66:=Tryz.sizeOf270
 v66:=Tryz.zeroValue270
 t70:=Tryz.underlying165
 a70:=Tryz.isAgg165
 z70:=Tryz.sizeOf165
 v70:=Tryz.zeroValue165
 t76:=Tryz.underlying286
 a76:=Tryz.isAgg286
 z76:=Tryz.sizeOf286
 v76:=Tryz.zeroValue286
 t77:=Tryz.underlying287
 a77:=Tryz.isAgg287
 z77:=Tryz.sizeOf287
 v77:=Tryz.zeroValue287 }
end Go.Proofs
namespace Go.Proofs.YthdhlcicpcnbhaaGreatDoor
open Go.RowKit
section
open Go.RowKit Go.Lib Go.Shelf Go.Sort
instance:Inhabited aW:=⟨ac0⟩
def iN (a:aW):List Value:= [.string ⟨a.name.toArray⟩, .int .u64 a.bal, .int .u64 a.seq]
theorem qH (x:ByteArray) (w:World):Calls Tryz.prog 155 #[.string x] w fun e w'=>e= .returned (.bool false)∧w'=w:=by
 go_enter Tryz.func155,Tryz.ntmps155
 go_wp2
 go_ret
 exact⟨sm,rfl⟩
theorem Bh (x y:List UInt8) (w:World):Calls Tryz.prog 124 #[.string ⟨x.toArray⟩, .string ⟨y.toArray⟩] w fun e w'=>e= .returned (.int .i64 (jd x y))∧w'=w:=by
 have ex:(⟨x.toArray⟩:ByteArray).toList=x:=by rw [Lib.toList_data]
 have ey:(⟨y.toArray⟩:ByteArray).toList=y:=by rw [Lib.toList_data]
 have hgt: ∀w,(binOp .gtr 9 (.string ⟨x.toArray⟩) (.string ⟨y.toArray⟩)).run Tryz.prog w= .ok (.bool (!(Op.bytesLess x y || x == y))) w:=fun w=>by simp [binOp,Op.stringOp,ex,ey]
 unfold jd;by_cases h1:Op.bytesLess x y=true
 ·rw [if_pos h1]
  go_enter Tryz.func124,Tryz.ntmps124
  go_wp2_with (go_at_call 155;refine(qH _ _).mono ?_;rintro e w' ⟨rfl,rfl⟩)
  go_ret
  exact⟨rfl,rfl⟩
 ·rw [if_neg h1];have h1:Op.bytesLess x y=false:=by simpa using h1
  by_cases h2:x=y
  ·subst h2;rw [h1,beq_self_eq_true,Bool.or_true,Bool.not_true] at hgt;rw [if_neg sm]
   go_enter Tryz.func124,Tryz.ntmps124
   go_wp2_with (first | (go_at_call 155;refine(qH _ _).mono ?_;rintro e w' ⟨rfl,rfl⟩) | simp only [hgt,Result.andThen_ok])
   go_ret
   exact⟨rfl,rfl⟩
  ·have h3:(x == y)=false:=beq_eq_false_iff_ne.2 h2;rw [h1,h3,Bool.or_false,Bool.not_false] at hgt;rw [if_pos (by simp [h1,h2])]
   go_enter Tryz.func124,Tryz.ntmps124
   go_wp2_with (first | (go_at_call 155;refine(qH _ _).mono ?_;rintro e w' ⟨rfl,rfl⟩) | simp only [hgt,Result.andThen_ok])
   go_ret
   exact⟨rfl,rfl⟩
theorem JJ (a b:aW) (W:World):Calls Tryz.prog 123 #[.agg (iN a).toArray, .agg (iN b).toArray] W fun e w'=>e= .returned (.int .i64 (jd a.name b.name))∧∃q os',w'=grow (W.drewN q) os':=by
 have hcon:=fun W'=>Bh a.name b.name W'
 unfold iN;generalize jd a.name b.name=r at hcon ⊢
 go_enter Tryz.func123,Tryz.ntmps123
 go_wp2_with (go_at_call 124;refine(hcon _).mono ?_;rintro e w' ⟨rfl,rfl⟩)
 go_ret
 exact⟨rfl,0,_,by rw [alloc_eq_grow,alloc_eq_grow,grow_grow];rfl⟩
end
section
open Go.RowKit Go.Lib Go.Shelf Go.Sort
variable {G:GS}
theorem encA_len (a:aW):(iN a).length=3:=rfl
theorem LX {w:World} {P:bC} {adr:dV} {a:aW} {p:List Value} (h:bF w P adr (aV a) p):p=iN a:=by
 unfold aV at h;cases h with
 | st parts hp hr=>
  match parts,hp with
  | [p1,p2,p3],_=>
   have h1:=hr 0 _ p1 rfl rfl;have h2:=hr 1 _ p2 rfl rfl;have h3:=hr 2 _ p3 rfl rfl;cases h1;cases h2;cases h3;rfl
theorem LY (w:World) (P:bC) (adr:dV) (a:aW):bF w P adr (aV a) (iN a):=by
 have h:bF w P adr (.st [.str a.name, .int .u64 a.bal, .int .u64 a.seq]) ([[.string ⟨a.name.toArray⟩],[.int .u64 a.bal],[.int .u64 a.seq]] :List (List Value)).flatten:= .st _ rfl (fun j m p hm hp=>by
  match j with
  | 0=>simp at hm hp;subst hm;subst hp;exact .str
  | 1=>simp at hm hp;subst hm;subst hp;exact .int
  | 2=>simp at hm hp;subst hm;subst hp;exact .int
  | j + 3=>simp at hm)
 exact h
theorem w3 {w:World} {P:bC} {adr:dV}: ∀{l:List aW} {Q:List (List Value)},Q.length=(l.map aV).length→(∀(j:Nat) x p,(l.map aV)[j]? =some x→Q[j]? =some p→bF w P adr x p)→Q=l.map iN
 | [],[],_,_=>rfl
 | [],_ :: _,h,_=>by simp at h
 | _ :: _,[],h,_=>by simp at h
 | a :: l,q :: Q,h,hr=>by
  rw [LX (hr 0 _ q rfl rfl),List.map_cons,w3 (l:=l) (Q:=Q) (by simpa using h) fun j x p hx hp=>hr (j + 1) x p (by simpa using hx) (by simpa using hp)]
theorem Bi: ∀(l:List aW) (j:Nat),j < l.length * 3→(l.map iN).flatten[j]? =(iN (l.getD (j / 3) ac0))[j % 3]?
 | [],j,h=>by simp at h
 | a :: l,j,h=>by
  rw [List.map_cons,List.flatten_cons]
  by_cases hj:j < 3
  ·rw [a₉ (by rw [encA_len];exact hj),show j / 3=0 by omega,show j % 3=j by omega]
   rfl
  ·have h':j - 3 < l.length * 3:=by simp at h;omega
   rw [a₁ (by rw [encA_len];omega),encA_len,Bi l (j - 3) h',show j / 3=(j - 3) / 3 + 1 by omega,show (j - 3) % 3=j % 3 by omega]
   rfl
theorem uU (d:Array aW):(Go.Sort.flatK iN 3 d).toList=(d.toList.map iN).flatten:=by
 apply c₈;intro j;have hl:(d.toList.map iN).flatten.length=d.size * 3:=by
  rw [wJ (fun p hp=>by obtain⟨a,_,rfl⟩:=c₅.1 hp;rfl),a₅,Array.length_toList]
 by_cases hj:j < d.size * 3
 ·rw [Bi _ _ (by rw [Array.length_toList];exact hj),Array.getElem?_toList,Array.getElem?_eq_getElem (by rw [size_flatK];exact hj)];have h1:=get_flatK iN 3 d j hj;rw [getElem!_pos _ _ (by rw [size_flatK];exact hj)] at h1;rw [h1];have h2:d[j / 3]! =d.toList.getD (j / 3) ac0:=by
   rw [getElem!_pos _ _ om,List.getD_eq_getElem?_getD,Array.getElem?_toList,Array.getElem?_eq_getElem om];rfl
  rw [h2,List.getElem?_eq_getElem (by rw [encA_len];omega),getElem!_pos _ _ (by rw [encA_len];omega)]
 ·rw [b₃ (by rw [Array.length_toList,size_flatK];omega),b₃ (by rw [hl];omega)]
theorem Gy {w:World} {g:Nat} {cur:Array Value} {ty:TypeId} (hg:w.heap[g]? =some (.cells cur ty (0,0))) (F:Array Value) (hF:F.size≤cur.size) :
  ∃row:Array Value,row.size=cur.size∧F.toList <+:row.toList∧putRow id w g 0 F=w.setRow g row:=by
 refine⟨putCells id 0 F cur,by simp [putCells],?_,?_⟩
 ·rw [List.prefix_iff_eq_take]
  apply c₈
  intro j
  rw [List.getElem?_take,Array.length_toList]
  split
  ·rename_i hj
   rw [Array.getElem?_toList,Array.getElem?_toList,Array.getElem?_eq_getElem hj,Array.getElem?_eq_getElem (by simp [putCells];omega)]
   simp [putCells,hj]
  ·rename_i hj
   rw [b₃ (by rw [Array.length_toList];omega)]
 ·unfold putRow
  rw [mapBlock_congr w g _ (fun _=>putCells id 0 F cur) (fun c e fr h=>by rw [hg] at h;injection h with h;injection h with h;rw [h])]
  unfold mapBlock World.setRow
  congr 1
def uV (P:Program) (f g1:FuncId):Prop:= ∀(g cap:Nat) (d:Array aW) (w:World),HoldsK iN 3 w g 0 d→g < w.heap.size→d.size < 4611686018427387904→
 Calls P f #[.slice (some ⟨g,0,none⟩) d.size cap, .func (.func g1) #[] #[]] w fun e w'=>e= .returned (.tuple #[])∧∃d' n os,PermIn 0 d.size d d'∧SortedIn (ltOf fun x y:aW=>jd x.name y.name) 0 d.size d'∧w'=sortWorldK iN 3 w g 0 n d' os
theorem mY (a b:aW):ltOf (fun x y:aW=>jd x.name y.name) a b=Op.bytesLess a.name b.name:=by
 unfold ltOf;have:=yn a.name b.name;cases h:Op.bytesLess a.name b.name with
 | true=>exact decide_eq_true (this.2 h)
 | false=>exact decide_eq_false fun hh=>by rw [this.1 hh] at h;cases h
theorem Bj {l:List aW} {d':Array aW} (hp:PermIn 0 l.toArray.size l.toArray d') (hs:SortedIn (ltOf fun x y:aW=>jd x.name y.name) 0 l.toArray.size d'):d'.toList.Perm l∧d'.toList.Pairwise (fun a b=>Op.bytesLess b.name a.name=false):=by
 obtain⟨h1,_,h3⟩:=hp;have e1:d'.extract 0 l.toArray.size=d':=by rw [← h1];exact Array.extract_size
 have e2:l.toArray.extract 0 l.toArray.size=l.toArray:=Array.extract_size;rw [e1,e2] at h3;refine⟨h3,List.pairwise_iff_getElem.2 fun i j hi hj hij=>?_⟩;rw [Array.length_toList] at hi hj;have:=hs i j (a₆ _) hij om;rw [mY,getElem!_pos d' j hj,getElem!_pos d' i hi] at this;exact this
theorem NM {w:World} {P:bC} {adr:dV} {f:FuncId} {v:Value} (h:aI w P adr (.fn f []) v):v= .func (.func f) #[] #[] :=by
 cases h with
 | val cs h=>
  cases h with
  | fn parts hp hr=>
   match parts,hp with
   | [],_=>rfl
theorem Gz (hS:uV Tryz.prog 122 123) (l l':List aW) (hn0:l≠ []) (hl:l.length≤100000) (hd:l.Pairwise (fun a b=>a.name≠b.name)) (hs:dC l') (hp:l'.Perm l) :
    aH Tryz.prog G 122 [.ms 0 3 0 l.length, .fn 123 []] [(0,cD l)] 1 (.tup []) [(0,cD l')] 1:=by
  have hlen0:0 < l.length:=List.length_pos_iff.2 hn0
  intro w P adr vals hg hI hn hL hargs
  cases hargs with | cons a1 hargs=>cases hargs with | cons a2 hargs=>
  cases hargs
  have e2:=NM a2
  subst e2
  rcases a1.ms_ with ⟨_,_,h0⟩ | ⟨g,o,cap,hg1,rfl,ho,hcap,hcm,cur0,ty0,hw0,hsz0⟩
  · omega
  have ho:o=0:=by simpa using ho (.inr rfl)
  subst ho
  have hsz0:=hsz0 rfl
  rcases hI.blk 0 (cD l) rfl with ⟨_,h2,_⟩ | ⟨g',h1,h2⟩
  · have:(cD l).l.length=0:=by rw [h2];rfl
    rw [show (cD l).l.length=l.length from a₅ _] at this
    omega
  rw [hg1] at h1
  injection h1 with h1
  subst h1
  obtain⟨cur,Q,hw,hQl,hQ3,hQr,hQp⟩:=h2.ofR rfl
  rw [hw0] at hw
  injection hw with hw
  injection hw with hw ht
  subst hw
  subst ht
  have hQe:Q=l.map iN:=w3 hQl hQr
  subst hQe
  have hpg: ∀o,¬ P g o:=fun o ho=>absurd (h2.pe o ho) (Nat.not_lt_zero _)
  have hH:HoldsK iN 3 w g 0 l.toArray:=fun j hj=>by
    rw [size_flatK] at hj
    have h1:(Go.Sort.flatK iN 3 l.toArray).toList[j]? =some (Go.Sort.flatK iN 3 l.toArray)[j]! :=by
      rw [Array.getElem?_toList,Array.getElem?_eq_getElem (by rw [size_flatK];exact hj),getElem!_pos _ _ (by rw [size_flatK];exact hj)]
    rw [uU] at h1
    refine⟨?_,by simp [World.frozen?,hw0]⟩
    rw [c₃]
    exact uF hw0 hQp h1
  have hlt:g < w.heap.size:=(Array.getElem?_eq_some_iff.1 hw0).1
  refine(hS g cap l.toArray w hH hlt (by simp;omega)).mono ?_
  rintro e w' ⟨rfl,d',m,os,hpm,hst,rfl⟩
  obtain⟨k1,k2⟩:=Bj hpm hst
  have hl':d'.toList=l':=AY (vJ k1 hd k2) hs (k1.trans hp.symm)
  have hds:d'.size=l.length:=hpm.1
  obtain⟨row,hr1,hr2,hr3⟩:=Gy (w:=Sort.ahead w m) (g:=g) hw0 (Go.Sort.flatK iN 3 d') (by rw [size_flatK,hds,hsz0];exact Nat.mul_le_mul_right 3 hcap)
  unfold sortWorldK putRowK
  rw [hr3]
  rw [uU,hl'] at hr2
  have hka:bg w (Sort.ahead w m) P P adr adr:=⟨fun _ _ h=>h,fun _ _ _=>rfl,fun _ _ h=>h,fun _ _ cur _ _ h=>⟨cur,h,rfl⟩⟩
  have hIa:aQ (Sort.ahead w m) P adr (aN (fun _=>none) 0 (cD l)):=by
    refine⟨fun c b hc=>?_,fun c c' b b' g hc hc'=>hI.inj c c' b b' g ?_ ?_,hI.prot⟩
    · by_cases e:c=0
      · subst e
        rw [aF] at hc
        injection hc with hc
        subst hc
        exact .inr ⟨g,hg1,h2.keep hka rfl fun _ h=>h⟩
      · rw [aK _ _ e] at hc;cases hc
    all_goals
      first
        | (by_cases e:c=0
           · subst e;rw [aF] at hc;exact hc
           · rw [aK _ _ e] at hc;cases hc)
        | (by_cases e:c'=0
           · subst e;rw [aF] at hc';exact hc'
           · rw [aK _ _ e] at hc';cases hc')
  have hl3:l'.length=l.length:=hp.length_eq
  obtain⟨j1,j2⟩:=hIa.write (c:=0) (g:=g) (b:=cD l) (b':=cD l') (cur:=cur0) (cur':=row) (by show(l.map aV).length≤(l'.map aV).length;simp;omega) (aF _ _ _) hg1 rfl rfl rfl hw0 hr1 (fun o ho=>absurd ho (hpg o)) (parts:=l'.map iN) (by show(l'.map iN).length=(l'.map aV).length;simp) (fun p hp=>by obtain⟨a,_,rfl⟩:=c₅.1 hp;rfl) (fun j x p hx hp=>by
    have hx:(l'.map aV)[j]? =some x:=hx
    rw [List.getElem?_map] at hx hp
    cases hj:l'[j]? with
    | none=>rw [hj] at hx;cases hx
    | some a=>
      rw [hj] at hx hp
      injection hx with hx
      injection hp with hp
      subst hx hp
      exact LY _ _ _ _) hr2
  have hb:Below ((Sort.ahead w m).setRow g row).heap.size ((Sort.ahead w m).setRow g row) (grow ((Sort.ahead w m).setRow g row) os):=
    ⟨rfl,rfl,rfl,sm,fun k hk=>by
      show((((Sort.ahead w m).setRow g row).heap ++ os))[k]? =_
      rw [Array.getElem?_append_left hk]⟩
  have e0:aN (aN (fun _=>none) 0 (cD l)) 0 (cD l')=aN (fun _=>none) 0 (cD l'):=by
    funext x
    by_cases e:x=0
    · subst e;rw [aF,aF]
    · rw [aK _ _ e,aK _ _ e,aK _ _ e]
  rw [e0] at j1
  have hkb:=bg.below' (adr:=adr) j1.prot hb
  have j3:aQ (grow ((Sort.ahead w m).setRow g row) os) P adr (aN (fun _=>none) 0 (cD l')):=by
    refine⟨fun c b hc=>?_,j1.inj,fun b o h=>c₆ (j1.prot b o h) hb.size⟩
    rcases j1.blk c b hc with h | ⟨g',h,h'⟩
    · exact .inl h
    · exact .inr ⟨g',h,h'.keep hkb (hb.block _ h'.lt) fun _ h=>h⟩
  refine⟨_,rfl,P,adr,j3.sub fun c b hc=>?_, .tup [] rfl (fun j m u hm=>by simp at hm),(hka.trans j2).trans hkb,fun _ _=>rfl,hn,fun c g hc=> .inr ⟨c,hc⟩,fun b o ho=> .inl ho,?_⟩
  · rw [VM.get_cons] at hc
    by_cases e:c=0
    · subst e
      rw [aF]
      exact hc
    · rw [if_neg (Ne.symm e)] at hc
      cases hc
  · have hs:=wL (w:=Sort.ahead w m) (ex:=fun b=> ∃c0,adr c0=some b) (g:=g) row ⟨0,hg1⟩
    refine⟨rfl,rfl,rfl,Nat.le_trans hs.size hb.size,fun b hb1 hne=>?_⟩
    have hb2:b < ((Sort.ahead w m).setRow g row).heap.size:=c₆ hb1 hs.size
    exact(hb.block b hb2).trans (hs.block b hb1 hne)
end
section
variable {G:GS}
attribute [local irreducible] aj aC aG aL aO vC aU au
theorem LZ:aD Tryz.prog G 188 [.int .u64 0] (.int .i64 0):=by
 refine aZ seat Tryz.func188 25 ?_;refine ae ?_;refine av ?_;rfl
theorem OM:aD Tryz.prog G 154 [.int .u64 0] (.int .i64 0):=by
 have c1:=LZ (G:=G);refine aZ seat Tryz.func154 8 ?_;refine ae ?_;refine cC (c1) ?_;refine av ?_;rfl
theorem ON:aH Tryz.prog G 179 [.ms 0 3 0 0, .int .i64 0, .int .i64 0, .fn 123 []] [(0,cD [])] 1 (.tup []) [(0,cD [])] 1:=by
 unfold cD;refine bR seat Tryz.func179 53 ?_;refine ae ?_;refine ar Unit (fun _=> [(8, .int .i64 1),(2, .int .i64 0)]) (fun _=> [(0,⟨87,3,true,0,([] :List aW).map aV⟩)]) 1 (fun _=>True) (fun _=>0) () trivial (vm [] []) ?_;rintro⟨⟩ -;try dsimp only
 refine ae ?_;exact en []
theorem OO:aH Tryz.prog G 153 [.ms 0 3 0 0, .int .i64 0, .int .i64 0, .int .i64 0, .fn 123 []] [(0,cD [])] 1 (.tup []) [(0,cD [])] 1:=by
 have c1:=ON (G:=G);unfold cD at *;refine bR seat Tryz.func153 148 ?_;refine ae ?_;refine ar Unit (fun _=> [(0, .ms 0 3 0 0),(1, .int .i64 0),(2, .int .i64 0),(4, .fn 123 [])]) (fun _=> [(0,⟨87,3,true,0,([] :List aW).map aV⟩)]) 1 (fun _=>True) (fun _=>0) () trivial (vm [] []) ?_;rintro⟨⟩ -;try dsimp only
 refine ae ?_;refine yc (c1) [(0,0)] ?_;refine ae ?_;exact en []
theorem GD:aH Tryz.prog G 122 [.ms 0 3 0 0, .fn 123 []] [(0,cD [])] 1 (.tup []) [(0,cD [])] 1:=by
 have c1:=OO (G:=G);have c2:=OM (G:=G);unfold cD at *;refine bR seat Tryz.func122 14 ?_;refine ae ?_;refine cC (c2) ?_;refine yc (c1) [(0,0)] ?_;refine ae ?_;exact en []
theorem NN (hS:uV Tryz.prog 122 123) (l l':List aW) (hl:l.length≤100000) (hd:l.Pairwise (fun a b=>a.name≠b.name)) (hs:dC l') (hp:l'.Perm l) :
  aH Tryz.prog G 122 [.ms 0 3 0 l.length, .fn 123 []] [(0,cD l)] 1 (.tup []) [(0,cD l')] 1:=by
 by_cases h:l= []
 ·subst h
  have e:=List.perm_nil.1 hp
  subst e
  exact GD
 ·exact Gz hS l l' h hl hd hs hp
end
section
variable {G:GS}
attribute [local irreducible] aj aC aG aL aO vC aU au
theorem JK (l:List aW) (col:Nat) (hc:bh col) (hl:l.length≤100000) (hs: ∀a∈l,bh a.bal):aH Tryz.prog G 121 [.st [.ms 0 3 0 l.length, .int .u64 col]] [(0,cD l)] 1 (.tup [.int .u64 (totS l col).1, .bool (totS l col).2]) [(0,cD l)] 1:=by
 have cs:=CF (G:=G) (col :: l.map (·.bal)) (by simp;omega) (by
  intro a ha;rcases List.mem_cons.1 ha with rfl | ha
  ·exact hc
  ·obtain⟨x,hx,rfl⟩:=c₅.1 ha;exact hs x hx)
 rw [AT l hc] at cs;generalize totS l col=p at *;obtain⟨v,b⟩:=p;dsimp only at cs ⊢;have hzl:(col :: l.map (·.bal)).length=l.length + 1:=sm;unfold cD;refine bR seat Tryz.func121 27 ?_;refine ae ?_;refine ar Nat (fun k=> [(13, .int .i64 k),(12, .int .i64 l.length),(11, .ms 0 3 0 l.length),(4, .ms 1 1 0 (k + 1))]) (fun k=> [(0,⟨87,3,true,0,l.map aV⟩),(1,⟨22,1,true,0,eH (col :: (l.take k).map (·.bal))⟩)]) 2 (fun k=>k≤l.length) (fun k=>l.length - k) 0 (a₆ _) (by rw [List.take_zero];exact(vm [(1,_)] [])) ?_;intro k hk;try dsimp only
 refine ae ?_;refine ad rfl ?_ ?_ <;> intro h
 ·have hk':k < l.length:=by have:=ot h;omega
  have hel:=Ns hk';have hsucc:=uz col l hk';have hll:(eH (col :: (l.take k).map (·.bal))).length=k + 1:=by simp [eH];omega
  generalize l[k] =x at *;obtain⟨nm,bal,seq⟩:=x;dsimp only at hsucc;replace hel:bH (l.map aV) (0 + k)=some (.st [.str nm, .int .u64 bal, .int .u64 seq]):=hel;have hel:=al.mk hel;refine ae ?_;refine aY rfl rfl (by intro R hR;refine dM hR ?_;(refine c₄ (a₂ _) ?_;refine⟨_,rfl,?_⟩;refine c₄ ⟨hll,aE (by kernel_rfl) pf⟩ ?_;refine⟨eH (col :: (l.take (k + 1)).map (·.bal)),sv (by rw [hsucc];rfl),k + 1 + 1,sv pf,?_⟩);exact hR) rfl ?_;refine ae ?_;exact⟨k + 1,by show k + 1≤l.length;omega,by show l.length - (k + 1) < l.length - k;omega,(by dsimp only;exact(vm [(1,_)] []))⟩
 ·have hk':k=l.length:=by have:=oF h;omega
  subst hk';rw [c₀];have hlen:l.length=l.length:=rfl;generalize hZ:col :: l.map (·.bal)=Z at *;rw [← hzl];refine ae ?_;refine bV rfl (fun _ h=>h) rfl (aa cs) rfl [(1,Z.length)] ⟨(by show Z.length≤(eH Z).length;simp [eH]),trivial⟩ lm ?_;refine ae ?_;exact en [_,_]
theorem L0 (hS:uV Tryz.prog 122 123) (l:List aW) (hl:l.length≤100000) (hsm: ∀a∈l,ni a):aH Tryz.prog G 80 [.sl l.length (l.map aV)] [] 0 (.tup [lgM (kT l).1, .int .i64 (kT l).2]) [] 0:=by
 generalize hQ:kT l=Q;obtain⟨⟨Ql,Qc⟩,Qe⟩:=Q;unfold kT at hQ;unfold lgM;dsimp only;by_cases hn:256 < l.length
 ·rw [if_pos hn] at hQ;simp only [lg0,b₁,gr.mk.injEq] at hQ;obtain⟨⟨rfl,rfl⟩,rfl⟩:=hQ;refine bR seat Tryz.func80 57 ?_;refine ae ?_;refine ad rfl ?_ ?_ <;> intro h
  ·have _h0:=h;refine ae ?_;refine av ?_;refine⟨[_,_],[],[],rfl,rfl,trivial,rfl,⟨?_,?_,trivial⟩,?_⟩
   ·exact .inr ⟨_,rfl,lm⟩
   ·exact rv
   ·exact mm
  ·exact absurd (oF h) om
 rw [if_neg hn] at hQ;have hg2:(iK l []).2=rK l [] :=CG l [] [] List.Pairwise.nil (fun nm=>by simp [bd]);have hg1:=CH l [] List.Pairwise.nil;have hgn:=uD l [];generalize hv:iK l [] =v at *;obtain⟨vl,ve⟩:=v;dsimp only at hQ hg1 hg2;subst hg2;have ct:=JK (G:=G) l 0 (by unfold bh;omega) hl (fun a ha=>(hsm a ha).2.1);have co:=AW (G:=G) ⟨l,0⟩ dm;unfold lgM at co;dsimp only at co;generalize hK:rK l [] =e at *;refine bR seat Tryz.func80 57 ?_;refine ae ?_;refine ad rfl ?_ ?_ <;> intro h
 ·exact absurd (ot h) om
 refine ae ?_;refine ar (Nat×List (List UInt8)) (fun x=> [(19, .int .i64 x.1),(18, .int .i64 l.length),(17, .sl l.length (l.map aV)),(4, .mp 1),(2, .ptr 0 2 0 0 []),(0, .sl l.length (l.map aV))]) (fun x=> [(0,⟨36,2,false,0,[.st [.nils, .int .u64 0]]⟩),(1,⟨170,0,false,0,[yx x.2]⟩)]) 2 (fun x=>x.1≤l.length∧x.2.length≤x.1∧rK (l.drop x.1) x.2=e) (fun x=>l.length - x.1) (0,[]) ⟨a₆ _,a₆ _,by rw [List.drop_zero];exact hK⟩ (by dsimp only;exact(vm [(0,_),(1,_)] [])) ?_;rintro⟨k,ks⟩ ⟨hk,hks,hR⟩;unfold yx;try dsimp only
 dsimp only at hk hks hR;refine ae ?_;refine ad rfl ?_ ?_ <;> intro h
 ·have hk':k < l.length:=by have:=ot h;omega
  have hel:=eN hk';have hsa:=hsm _ (c₉ hk');have c1:=rX (G:=G) l[k].name (by have:=hsa.1;omega);rw [List.drop_eq_getElem_cons hk',rK] at hR;generalize l[k] =a at *;obtain⟨nm,bal,seq⟩:=a;replace hel:cS (l.map aV) l.length (k:Int)=some (.st [.str nm, .int .u64 bal, .int .u64 seq]):=hel;have hel:=al.mk hel;dsimp only at hR c1;by_cases hnm:dj nm=false
  ·rw [hnm] at c1;rw [if_pos hnm] at hR;subst hR;rw [if_pos om] at hQ;simp only [lg0,b₁,gr.mk.injEq] at hQ;obtain⟨⟨rfl,rfl⟩,rfl⟩:=hQ;refine ae ?_;refine cC (c1) ?_;refine av ?_;refine⟨[_,_],[],[],rfl,rfl,trivial,rfl,⟨?_,?_,trivial⟩,?_⟩
   ·exact .inr ⟨_,rfl,lm⟩
   ·exact rv
   ·exact mm
  rw [if_neg hnm] at hR;have hnm:dj nm=true:=by simpa using hnm
  rw [hnm] at c1;have hz:=bN.mk (show(b₆ ks.length (MV.st [])).length=(ks.map MV.str).length by simp);by_cases hm:nm∈ks
  ·rw [if_pos hm] at hR;subst hR;rw [if_pos om] at hQ;simp only [lg0,b₁,gr.mk.injEq] at hQ;obtain⟨⟨rfl,rfl⟩,rfl⟩:=hQ;obtain⟨j,hj,hjl⟩:=qw (i:=0) hm;have hj:=al.mk hj;have hu:=al.mk (show bH (b₆ ks.length (MV.st [])) (0 + j)=some (MV.st []) by rw [bD,c₃];simp [hjl]);refine ae ?_;refine cC (c1) ?_;refine av ?_;refine⟨[_,_],[],[],rfl,rfl,trivial,rfl,⟨?_,?_,trivial⟩,?_⟩
   ·exact .inr ⟨_,rfl,lm⟩
   ·exact rv
   ·exact mm
  ·rw [if_neg hm] at hR;have hj:=al.mk (uC (i:=0) hm);have hv:=aT.mk (show [MV.mpv (ks.map MV.str ++ [.str nm]) (b₆ ks.length (MV.st []) ++ [.st []])] = [MV.mpv ((ks ++ [nm]).map MV.str) (b₆ (ks ++ [nm]).length (.st []))] by rw [d₀,a₃,List.length_singleton,List.replicate_succ'];rfl);refine ae ?_;refine cC (c1) ?_;exact⟨(k + 1,ks ++ [nm]),⟨dm,by simp;omega,hR⟩,dm,(by dsimp only;exact(vm [(0,_),(1,_)] []))⟩
 ·have hk':k=l.length:=by have:=oF h;omega
  subst hk';rw [List.drop_length,rK] at hR;subst hR;rw [if_neg sm] at hQ;obtain⟨hs1,hs2⟩:=hg1 rfl;rw [b₄] at hs2;have hd:=(hgn rfl).1;have cs:=NN (G:=G) hS l vl hl hd hs1 hs2;rw [← wI hs2.symm] at hQ;have hvl:=hs2.length_eq;unfold cD at co ct cs;generalize totS l 0=p at *;obtain⟨tot,ok⟩:=p;dsimp only at ct hQ;refine ae ?_;refine yc (co) [] ?_;refine ae ?_;refine yc (ct) [(0,5)] ?_;refine ae ?_;cases ok with
  | false=>
   rw [if_pos rfl] at hQ;simp only [lg0,b₁,gr.mk.injEq] at hQ;obtain⟨⟨rfl,rfl⟩,rfl⟩:=hQ;refine ae ?_;refine av ?_;refine⟨[_,_],[],[],rfl,rfl,trivial,rfl,⟨?_,?_,trivial⟩,?_⟩
   ·exact .inr ⟨_,rfl,lm⟩
   ·exact rv
   ·exact mm
  | true=>
   rw [if_neg sm] at hQ;simp only [b₁,gr.mk.injEq] at hQ;obtain⟨⟨rfl,rfl⟩,rfl⟩:=hQ;refine ae ?_;refine yc (cs) [(0,5)] ?_;refine ae ?_;refine av ?_;rw [← hvl];refine⟨[_,_],[],[(5,vl.length)],rfl,rfl,?_,rfl,⟨?_,?_,trivial⟩,?_⟩
   ·exact⟨by show vl.length≤(vl.map aV).length;simp,trivial⟩
   ·exact .inr ⟨_,rfl,lm⟩
   ·exact rv
   ·exact mm
end
section
attribute [local irreducible] aj aC aG aL aO vC aU au
theorem JL (hS:uV Tryz.prog 122 123) (l:List aW) (p:Nat) (hl:l.length≤100000) (hsm: ∀a∈l,ni a) (hp:bh p):aH Tryz.prog GU 42 [.sl l.length (l.map aV), .int .u64 p] [] 0 (.tup [appM (fk l p).1, .int .i64 (fk l p).2]) [] 0:=by
 have c1:=L0 (G:=GU) hS l hl hsm;have hgs:=tW hsm;have co:=yp (G:=GU) (kT l).1 (by have:=hgs.1;omega);unfold fk;generalize kT l=y at *;obtain⟨⟨nacs,ncol⟩,e⟩:=y;unfold lgM at c1 co;dsimp only at *;by_cases he:e=0
 ·rw [if_neg (by simpa using he)]
  show aH _ _ _ _ _ _ (.tup [.st [.st [.sl nacs.length (nacs.map aV), .int .u64 ncol], .st [.sl nacs.length (nacs.map aV), .int .u64 ncol], .st [.sl 0 [], .int .u64 (0:Nat)], .bool false, .int .u64 p],_]) _ _
  refine bR seat Tryz.func42 22 ?_;refine ae ?_;refine jS (c1) ?_;refine ad rfl ?_ ?_ <;> intro h
  ·exact absurd he (fun he=>by subst he;simp at h)
  refine ae ?_;refine aw [ag 0,ag 1,de 2,ag 3,ag 4,ag 5,ag 6] ?_;refine ae ?_;refine jT (co) ?_;refine av ?_;refine⟨[_,_],[],[],rfl,rfl,trivial,rfl,⟨?_,?_,trivial⟩,?_⟩
  ·exact .inr ⟨_,rfl,⟨rel_lg,rel_lg,rel_lg0,⟨rfl,rfl⟩,⟨rfl,rfl⟩,trivial⟩⟩
  ·exact rv
  ·exact mm
 ·rw [if_pos he];dsimp only;refine bR seat Tryz.func42 22 ?_;refine ae ?_;refine jS (c1) ?_;refine ad rfl ?_ ?_ <;> intro h
  ·refine ae ?_;refine av ?_;refine⟨[_,_],[],[],rfl,rfl,trivial,rfl,⟨?_,?_,trivial⟩,?_⟩
   ·exact Av
   ·exact rv
   ·exact mm
  ·exfalso;have: ¬ (e:Int)≠0:=by simpa using h
   omega
end
section
open Go.RowKit Go.Lib Go.Shelf Go.Sort
theorem Pv:SWO (ltOf fun x y:aW=>jd x.name y.name) where
 irrefl x:=by rw [mY];exact less_irr _
 trans x y z h1 h2:=by rw [mY] at *;exact gI h1 h2
 ntrans x y z h1 h2:=by
  rw [mY] at *;cases h:Op.bytesLess x.name z.name with
  | false=>rfl
  | true=>
   exfalso;by_cases e:z.name=y.name
   ·rw [e,h1] at h;cases h
   ·have h3:=uA h2 (Ne.symm e);rw [gI h h3] at h1;cases h1
theorem NO:uV Tryz.prog 122 123:=by
 intro g cap d w hH hg hd;have eg: ∀args w,(callFunc 123 args).run Tryz.prog w= .ok (.enter 123 args) w:=enters_of Tryz.func123 (by kernel_rfl) rfl
 exact AnyQ.slices_SortFunc Tryz.sortAcc 3 Tryz.isAgg87 Tryz.sizeOf87 iN (fun _=>rfl) (fun x v hv=>by simp [iN] at hv;rcases hv with rfl | rfl | rfl <;> rfl) (fun x y=>jd x.name y.name) Pv 123 #[] g 0 cap d w eg (fun _ _ _ _ x y=>JJ x y _) hH hg hd
theorem JM (l:List aW) (p:Nat) (hl:l.length≤100000) (hsm: ∀a∈l,ni a) (hp:bh p):aH Tryz.prog GU 42 [.sl l.length (l.map aV), .int .u64 p] [] 0 (.tup [appM (fk l p).1, .int .i64 (fk l p).2]) [] 0:=JL NO l p hl hsm hp
end
section
variable {G:GS}
attribute [local irreducible] aj aC aG aL aO vC aU au
def cfE0:ll:=⟨0,0,0,0,0,0,false,0,0,0,0,0⟩
def stE0:cY:=⟨cfE0,app0,0,0,0,[],[]⟩
def jg (c:ll) (acs:List aW):cY×Int:=
 if jf c≠0 then(stE0,jf c) else if (fk acs c.price).2≠0 then(stE0,(fk acs c.price).2) else(⟨c,(fk acs c.price).1,0,0,0,[],[]⟩,0)
theorem r8 {σ:Nat→Option Nat} {fz:Fz}:cN σ fz (cO stE0) po:=
 have lg:cN σ fz (lgM lg0) (.st [.nils, .int .u64 0]):= .inr ⟨_,rfl, .inr ⟨rfl,rfl⟩,⟨rfl,rfl⟩,trivial⟩
 .inr ⟨_,rfl, .inl ⟨rfl,rfl⟩, .inr ⟨_,rfl,lg,lg,lg,⟨rfl,rfl⟩,⟨rfl,rfl⟩,trivial⟩,⟨rfl,rfl⟩,⟨rfl,rfl⟩,⟨rfl,rfl⟩, .inr ⟨rfl,rfl⟩, .inr ⟨rfl,rfl⟩,trivial⟩
theorem Bk (c:ll) (acs:List aW) (hl:acs.length≤140737488355328) (hsm: ∀a∈acs,ni a) (hp:bh c.price):aH Tryz.prog G 17 [cfM c, .sl acs.length (acs.map aV)] [] 0 (.tup [cO (jg c acs).1, .int .i64 (jg c acs).2]) [] 0:=by
 have cv:=Jz (G:=G) c;have ci:=K8 (G:=G) acs c.price hl hsm hp;unfold jg;generalize jf c=v at *;generalize fk acs c.price=ia at *;obtain⟨a0,ea⟩:=ia;dsimp only at ci ⊢;by_cases hv:v=0;rotate_left
 ·rw [if_pos hv];refine bR seat Tryz.func17 29 ?_;refine ae ?_;refine cC (cv) ?_;refine ad rfl ?_ ?_ <;> intro h
  ·refine ae ?_;refine av ?_;refine⟨[_,_],[],[],rfl,rfl,trivial,rfl,⟨?_,?_,trivial⟩,?_⟩
   ·exact r8
   ·exact rv
   ·exact mm
  ·exact absurd (by simpa using h) hv
 ·subst hv;rw [if_neg sm];by_cases he:ea=0;rotate_left
  ·rw [if_pos he];refine bR seat Tryz.func17 29 ?_;refine ae ?_;refine cC (cv) ?_;refine jS (ci) ?_;refine ad rfl ?_ ?_ <;> intro h
   ·refine ae ?_;refine av ?_;refine⟨[_,_],[],[],rfl,rfl,trivial,rfl,⟨?_,?_,trivial⟩,?_⟩
    ·exact r8
    ·exact rv
    ·exact mm
   ·exact absurd (by simp at h;omega) he
  ·subst he;rw [if_neg sm];refine bR seat Tryz.func17 29 ?_;refine ae ?_;refine cC (cv) ?_;refine jS (ci) ?_;refine av ?_;exact en [_,_]
end
end Go.Proofs.YthdhlcicpcnbhaaGreatDoor
