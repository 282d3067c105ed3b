/- Parts of a proof, one behind the other: M36, M37, M15, M16, M17, M18, M29, M30, M20, M21, M22, M23, M32. -/
import Derived.Test.YtohikcplmbkmeaaGreatDoorW01
open Bool renaming and_eq_true → a₀
open Nat renaming eq_of_beq_eq_true → a₁,beq → a₂,mul_le_mul_right → a₄,lt_of_lt_of_le → a₇,max → b₀,blt → b₁,le_refl → b₂,le_trans → b₃,lt_or_ge → b₆,blt_eq → c₀,add_mul → c₃,ble → c₄,zero_le → c₇
open List renaming getElem?_eq_some_iff → a₃,length_take → a₅,length_drop → a₆,mem_cons_self → a₈,zipWith → a₉,mem_cons → b₄,mem_append → b₅,mem_of_mem_drop → b₇,mem_of_mem_take → b₈,all_eq_true → b₉,getElem?_take → c₁,getElem?_drop → c₂,map_cons → c₅,drop_eq_getElem_cons → c₆,zipWith_cons_cons → c₈,mem_cons_of_mem → c₉,getElem_mem → d₀
open Option renaming bind_some → d₁
set_option maxRecDepth 20000
set_option maxHeartbeats 16000000
set_option linter.unusedVariables false
set_option linter.unusedSimpArgs false
namespace Go.Proofs.YtohikcplmbkmeaaGreatDoor
open Go.RowKit
section
section
variable {w w':World} {P P':bT} {adr adr':fV} {m m0:FM}
theorem aX.bump1 (h:aX w P adr m) {c n:Nat} {b:MB} (hb:m c=some b) (hn:n≤b.l.length) :
  ∃P',aX w P' adr (aO m c { b with pe:=b₀ b.pe n })∧bG w w P P' adr adr∧(∀x o,P' x o→P x o∨∃c,adr c=some x)∧(∀g,adr c=some g→∀o,o < n * b.es→P' g o):=by
 rcases h.blk c b hb with h1 | ⟨g,h1,h2⟩
 ·have hn0:n=0:=by rw [h1.2.1] at hn;exact Nat.le_zero.1 hn
  subst hn0
  have e:aO m c { b with pe:=b₀ b.pe 0 }=m:=by
   funext x
   by_cases e:x=c
   ·subst e
    rw [aH,hb]
    have:b₀ b.pe 0=b.pe:=Nat.max_eq_left (c₇ _)
    rw [this]
   ·exact aJ _ _ e
  rw [e]
  exact⟨P,h,bG.refl _ _ _,fun _ _ h=> .inl h,fun g hg o ho=>by rw [Nat.zero_mul] at ho;omega⟩
 ·have k:bG w w P (fun x o=>P x o∨(x=g∧o < n * b.es)) adr adr:=⟨fun _ _ h=> .inl h,fun _ _ _=>rfl,fun _ _ h=>h,fun _ _ cur _ _ h=>⟨cur,h,rfl⟩⟩
  refine⟨fun x o=>P x o∨(x=g∧o < n * b.es),⟨fun x y hx=>?_,fun x y bx bY g' hx hy hgx hgy=>?_,fun x o hp=>?_⟩,k,fun x o hp=>?_,fun g' hg' o ho=>?_⟩
  ·by_cases e:x=c
   ·subst e
    rw [aH] at hx
    injection hx with hx
    subst hx
    refine .inr ⟨g,h1,?_,fun o ho=>?_,?_⟩
    ·rcases h2.has' with ⟨cur,parts,a1,a2,a3,a4,a5⟩ | ⟨m1,m2,ks,vs,o,m3,m4,m5⟩
     ·exact .inl ⟨cur,parts,a1,a2,a3,fun j z p hz hp=>(a4 j z p hz hp).keep (k.sub b.row),a5⟩
     ·exact .inr ⟨m1,m2,ks,vs,o,m3,m4,m5.keep k⟩
    ·rcases ho with ho | ho
     ·exact a₇ (h2.pe o ho) (a₄ _ (Nat.le_max_left _ _))
     ·exact a₇ ho.2 (a₄ _ (Nat.le_max_right _ _))
    ·exact Nat.max_le.2 ⟨h2.le,hn⟩
   ·rw [aJ _ _ e] at hx
    rcases h.blk x y hx with h3 | ⟨g',h3,h4⟩
    ·exact .inl h3
    ·refine .inr ⟨g',h3,h4.keep k rfl fun o ho=>?_⟩
     rcases ho with ho | ho
     ·exact ho
     ·rw [ho.1] at h3
      exact absurd (h.inj x c y b g hx hb h3 h1) e
  ·have old: ∀{x:Nat} {bx:MB},aO m c { b with pe:=b₀ b.pe n } x=some bx→∃y,m x=some y:=by
    intro x bx hx
    by_cases e:x=c
    ·subst e;exact⟨b,hb⟩
    ·rw [aJ _ _ e] at hx;exact⟨bx,hx⟩
   obtain⟨_,a1⟩:=old hx
   obtain⟨_,a2⟩:=old hy
   exact h.inj x y _ _ g' a1 a2 hgx hgy
  ·rcases hp with hp | hp
   ·exact h.prot x o hp
   ·rw [hp.1];exact h2.lt
  ·rcases hp with hp | hp
   ·exact .inl hp
   ·exact .inr ⟨c,by rw [hp.1];exact h1⟩
  ·rw [h1] at hg'
   injection hg' with hg'
   subst hg'
   exact .inr ⟨rfl,ho⟩
theorem bG.same (k:bG w w P P' adr adr) (a:fV):bG w w P P' a a:=⟨k.prot,fun _ _ _=>rfl,fun _ _ h=>h,fun _ _ cur _ _ h=>⟨cur,h,rfl⟩⟩
end
section
variable {Pg:Program} {T:bB} {w w':World} {P P':bT} {adr adr':fV} {m:FM} {cnt:Nat} {K:MV×Dl→Prop} {u v x y:Value} {r:MV}
theorem A7 (hT:cB Pg T) (hI:aX w P adr m) (hn:adr cnt=none) {t:TypeId} {p:MV} {lo hi:Option MV} {vl vh:Option Value} (h:(fg T m t p lo hi).runP K) (hp:aK w P adr p u) (hl:kP w P adr lo vl) (hh:kP w P adr hi vh) :
  ∃r δ y w',K (r,δ)∧(Instr.sliceAt t u vl vh none).run Pg w= .ok y w'∧bI w P adr m cnt r δ y w':=by
 unfold fg at h
 split at h
 ·rename_i n e0 es c k0 k fo path hd
  split at h
  ·rename_i b hb
   split at h
   ·rename_i n' es' l hbl
    cases hq:(a₂ k 0 && a₂ fo 0 && path.isEmpty && a₂ n n' && a₂ es es') with
    | false=>rw [hq] at h;exact h.elim
    | true=>
     rw [hq] at h
     simp only [a₀] at hq
     obtain⟨⟨⟨⟨q1,q2⟩,q3⟩,q4⟩,q5⟩:=hq
     have q1:=a₁ q1
     have q2:=a₁ q2
     have q4:=a₁ q4
     have q5:=a₁ q5
     subst q1 q2 q4 q5
     obtain⟨⟨l0,h0⟩,hbd,x,hx,j,hj,h⟩:=h
     injection hx with hx
     injection hj with hj
     subst hx;subst hj
     obtain⟨h1,h2,h3,h4⟩:=jh hbd
     obtain⟨hu,hs⟩:=TD.fits_arr (hT.fits hd)
     obtain⟨g,hg,rfl⟩:=hp.ptr_
     rcases hI.blk c b hb with h5 | ⟨g',h5,h6⟩
     ·rw [hg] at h5;cases h5.2.2.1
     rw [hg] at h5
     injection h5 with h5
     subst h5
     obtain⟨P',a1,a2,a3,a4⟩:=hI.bump1 hb (n:=1) (by rw [hbl];exact b₂ _)
     obtain⟨cur,parts,c1,c2,c3,c4,c5⟩:=h6.ofL (by rw [hbl];intro ks vs e;cases e)
     rw [hbl] at c2
     match parts,c2 with
     | [p0],_=>
     have hrep:=c4 0 (.arr n es l) p0 (by rw [hbl];rfl) rfl
     have hp0:=c3 p0 sm
     cases hrep with
     | arr parts2 d1 d2 d3 d4=>
     have hbes:b.es=n * es:=by rw [← hp0,aR d3,d2]
     have hrunb:=ek (P:=Pg) (b:=false) (kP.bnd hl h4) (kP.bnd hh (d:=n) h3) h1 h2 w
     refine⟨_,_, .slice (some (if n=l0 then⟨g,0 * k0 + 0,none⟩ else(⟨g,0 * k0 + 0,none⟩:Addr).add (l0 * es))) (h0 - l0) (n - l0),w,h,?_,?_⟩
     ·simp only [Instr.sliceAt,Instr.sureAddr,Sem.run_bind,run_underlying hu,Result.andThen_ok,Sem.run_pure,hrunb,bD hs]
     ·refine⟨P',adr,?_,?_,a2,fun _ _=>rfl,fun g hg=>(by rw [hn] at hg;cases hg),cG.refl _ _,fun x o hx=>(a3 x o hx).elim .inl fun h=> .inr (.inr h)⟩
      ·have hcut:(cutL l l0 h0).length=h0 - l0:=by unfold cutL;rw [a₅,a₆];omega
       have hall: ∀p∈(parts2.drop l0).take (h0 - l0),p.length=es:=fun p hp=>d3 p (b₇ (b₈ hp))
       have hlen2:((parts2.drop l0).take (h0 - l0)).length=h0 - l0:=by rw [a₅,a₆];omega
       refine .val [_] (.sl _ (n - l0) es ((parts2.drop l0).take (h0 - l0)) hcut hlen2 hall (fun h=>nomatch h) om (fun hn0=>⟨g,l0 * es,?_,fun j u hj=>?_⟩) fun j x p hx hp=>?_)
       ·rw [if_neg om];simp [Addr.add_mid]
       ·have hjl:=(a₃.1 hj).1
        rw [aR hall,hlen2] at hjl
        have hmul:l0 * es + (h0 - l0) * es=h0 * es:=by rw [← c₃];congr 1;omega
        have hmul2:h0 * es≤n * es:=a₄ _ h2
        refine⟨?_,a4 g hg _ (by rw [Nat.one_mul,hbes];omega)⟩
        rw [cell_of_row w g _ cur b.ty (0,0) c1]
        have h7:=dP d3 l0 (h0 - l0) hj om
        have h8:([parts2.flatten] :List (List Value)).flatten=parts2.flatten:=sm
        have:=dW c5 (by rw [h8];exact h7)
        simpa using this
       ·obtain⟨hx,hjlt⟩:=ji hx
        rw [c₁,if_pos hjlt,c₂] at hp
        exact(d4 _ x p hx hp).keep (a2.same _)
      ·have e5:(Dl.bump [(c,1)]).appF cnt m=aO m c { b with pe:=b₀ b.pe 1 }:=by
        show(match m c with | some b=>_ | none=>m)=_
        rw [hb]
       rw [e5];exact a1
   ·exact h.elim
  ·exact h.elim
 ·obtain⟨r,y,h1,h2,h3⟩:=Ef hT h hp hl hh
  exact⟨r, .none,y,w,h1,h2,bI.pure hI hn h3⟩
theorem lN {n:Nat} {ps:List (Nat×MV)} {x:Nat×Nat×Nat×Nat} (h:mT n ps=some x):n=1∧ps= [(0, .ms x.1 x.2.1 x.2.2.1 x.2.2.2)] :=by
 unfold mT at h;split at h
 ·split at h
  ·injection h with h;subst h;exact⟨rfl,rfl⟩
  ·cases h
 ·cases h
theorem Ei (hI:aX w P adr m) {c es off n:Nat} {b:MB} (hb:m c=some b) (hrow:b.row=true) (hes:b.es=es) (hle:off + n≤b.l.length) (hp:aK w P adr (.ms c es off n) u) :
  ∃P',aX w P' adr (iT m c)∧bG w w P P' adr adr∧(∀x o,P' x o→P x o∨∃c,adr c=some x)∧aK w P' adr (.sl n (cutL b.l off (off + n))) u:=by
 obtain⟨P',a1,a2,a3,a4⟩:=hI.bump1 hb (n:=off + n) hle
 have hI2:aX w P' adr (iT m c):=a1.sub fun x y hx=>by
  obtain⟨h1,h2⟩:=mR hx
  rw [aJ _ _ h1];exact h2
 refine⟨P',hI2,a2,a3,?_⟩
 rcases hp.ms_ with ⟨rfl,rfl,rfl⟩ | ⟨g,o,cap,hg,rfl,ho,hcap,hcap2,_⟩
 ·have hl0:cutL b.l 0 (0 + 0)= [] :=by simp [cutL]
  rw [hl0]
  exact .val [_] (.sl none 0 0 [] rfl rfl (fun p hp=>nomatch hp) (fun _=>⟨rfl,rfl⟩) (b₂ _) (fun h=>absurd rfl h) (fun j m p h=>by simp at h))
 ·rcases hI.blk c b hb with h1 | ⟨g',h1,h2⟩
  ·rw [hg] at h1;cases h1.2.2.1
  rw [hg] at h1
  injection h1 with h1
  subst h1
  obtain⟨cur,parts,c1,c2,c3,c4,c5⟩:=h2.ofR hrow
  rw [hrow] at c4
  have hcut:(cutL b.l off (off + n)).length=n:=by unfold cutL;rw [a₅,a₆];omega
  have hpl:parts.length=b.l.length:=c2
  have hpes: ∀p∈parts,p.length=es:=fun p hp=>by rw [c3 p hp,hes]
  have hall: ∀p∈(parts.drop off).take n,p.length=es:=fun p hp=>hpes p (b₇ (b₈ hp))
  have hlen2:((parts.drop off).take n).length=n:=by rw [a₅,a₆];omega
  refine .val [_] (.sl (some ⟨g,o,none⟩) cap es ((parts.drop off).take n) hcut hlen2 hall (fun h=>nomatch h) hcap (fun hn0=>⟨g,o,rfl,fun j u hj=>?_⟩) fun j x p hx hp=>?_)
  ·have ho:=ho (.inl hn0)
   subst ho
   have hjl:=(a₃.1 hj).1
   rw [aR hall,hlen2] at hjl
   refine⟨?_,a4 g hg _ ?_⟩
   ·rw [cell_of_row w g _ cur b.ty (0,0) c1]
    have:=dW c5 (dP hpes off n hj om)
    simpa using this
   ·rw [hes,c₃];omega
  ·obtain⟨hx,hj⟩:=ji hx
   rw [c₁] at hp
   split at hp
   ·rw [c₂] at hp
    exact(c4 _ x p hx hp).keep (a2.same noAdr)
   ·cases hp
theorem xf (hT:cB Pg T) (hI:aX w P adr m) (hn:adr cnt=none) (hm:m cnt=none) {t:TypeId} {c es' off k:Nat} (h:(eH T m cnt t c es' off k).runP K) (hp:aK w P adr (.ms c es' off k) u) :
  ∃r δ y w',K (r,δ)∧(Instr.buildSlice t 1 #[(0,u)]).run Pg w= .ok y w'∧bI w P adr m cnt r δ y w':=by
 unfold eH at h
 split at h
 ·rename_i e es hd
  split at h
  ·rename_i z hz
   split at h
   ·rename_i b hb
    cases hq:(a₂ z.size es && a₂ es 1 && z.idFree && !z.isAgg && b.row && a₂ b.es es') with
    | false=>rw [hq] at h;exact h.elim
    | true=>
     rw [hq] at h
     simp only [a₀] at hq
     obtain⟨⟨⟨⟨⟨q1,q2⟩,q3⟩,q4⟩,q5⟩,q6⟩:=hq
     obtain⟨hle,l,hl,h⟩:=h
     injection hl with hl
     subst hl
     have q2:=a₁ q2
     have q1:=a₁ q1
     have q4:z.isAgg=false:=by simpa using q4
     obtain⟨P',a1,a2,a3,a4⟩:=Ei hI hb q5 (a₁ q6) hle hp
     have hm2:iT m c cnt=none:=by unfold iT;split;rfl;exact hm
     have h2:(dR T cnt t 1 [(0, .sl k (cutL b.l off (off + k)))]).runP fun x=>x=(.ms cnt es 0 1, .new ⟨e,es,true,0,[.sl k (cutL b.l off (off + k))]⟩):=by
      unfold dR
      rw [hd]
      simp only [hz]
      have e1:(a₂ z.size es && b₁ 0 es && c₄ ((0 + 1) * es) 16777216 && z.idFree && [((0:Nat),MV.sl k (cutL b.l off (off + k)))].all (fun p=>p.2.isVal))=true:=by
       rw [q1,q2,q3];rfl
      have e2:fC (repM (0 + 1) z) [(0, .sl k (cutL b.l off (off + k)))] =some [.sl k (cutL b.l off (off + k))] :=by
       show(match bW [z] 0 with | some m=>bif a₂ (MV.sl k (cutL b.l off (off + k))).size m.size && Ju (MV.sl k (cutL b.l off (off + k))).isAgg m.isAgg then fC (setL [z] 0 _) [] else none | none=>none)=_
       show(bif a₂ (MV.sl k (cutL b.l off (off + k))).size z.size && Ju (MV.sl k (cutL b.l off (off + k))).isAgg z.isAgg then fC (setL [z] 0 _) [] else none)=_
       rw [q4,q1,q2]
       rfl
      simp only [e1,e2]
      rfl
     obtain⟨r,δ,y,w',hr,hrun,hpost⟩:=lM hT a1 hn hm2 h2 (pv:= [(0,u)]) ⟨rfl,a4,trivial⟩
     injection hr with hr1 hr2
     subst hr1;subst hr2
     obtain⟨P2,adr2,p1,p2,p3,p4,p5,p6,p7⟩:=hpost
     refine⟨_,_,y,w',h,hrun,P2,adr2,p1,p2,a2.trans p3,p4,p5,p6,fun x o hx=>?_⟩
     rcases p7 x o hx with h | h | h
     ·exact(a3 x o h).elim .inl fun h=> .inr (.inr h)
     ·exact .inr (.inl h)
     ·exact .inr (.inr h)
   ·exact h.elim
  ·exact h.elim
 ·exact h.elim
end
end
section
section
variable {Pg:Program} {T:bB} {w w':World} {P P':bT} {adr adr':fV} {m:FM} {cnt:Nat} {K:MV×Dl→Prop} {u v y:Value} {r:MV}
theorem aK.mp_ {c:Nat} (h:aK w P adr (.mp c) u): ∃g,adr c=some g∧u= .map (some g):=by
 cases h with
 | val cs h=>
  cases h with
  | mp g hg=>exact ⟨g,hg,rfl⟩
theorem ik.len: ∀{ks vs:List MV} {es:List MapEntry},ik w P ks vs es→es.length=ks.length∧vs.length=ks.length
 | [],[],[],_=>⟨rfl,rfl⟩
 | _ :: _,_ :: _,_ :: _,h=>by have:=ik.len h.2.2;simp [this.1,this.2]
 | [],[],_ :: _,h=>h.elim
 | [],_ :: _,_,h=>h.elim
 | _ :: _,[],_,h=>h.elim
 | _ :: _,_ :: _,[],h=>h.elim
theorem ik.push {k x:MV} {e:MapEntry} (hk:aK w P noAdr k e.key) (hx:aK w P noAdr x e.val): ∀{ks vs:List MV} {es:List MapEntry},ik w P ks vs es→ik w P (ks ++ [k]) (vs ++ [x]) (es ++ [e])
 | [],[],[],_=>⟨hk,hx,trivial⟩
 | _ :: _,_ :: _,_ :: _,h=>⟨h.1,h.2.1,ik.push hk hx h.2.2⟩
 | [],[],_ :: _,h=>h.elim
 | [],_ :: _,_,h=>h.elim
 | _ :: _,[],_,h=>h.elim
 | _ :: _,_ :: _,[],h=>h.elim
theorem ik.at: ∀{ks vs:List MV} {es:List MapEntry} {j:Nat} {x:MV},ik w P ks vs es→vs[j]? =some x→∃e,es[j]? =some e∧aK w P noAdr x e.val
 | _ :: _,_ :: _,e :: _,0,x,h,hx=>by injection hx with hx;subst hx;exact⟨e,rfl,h.2.1⟩
 | _ :: _,_ :: _,_ :: _,j + 1,x,h,hx=>ik.at (j:=j) h.2.2 (by simpa using hx)
 | [],[],_,j,x,_,hx=>by simp at hx
 | [],_ :: _,_,_,_,h,_=>h.elim
 | _ :: _,[],_,_,_,h,_=>h.elim
 | _ :: _,_ :: _,[],_,_,h,_=>h.elim
theorem ik.put {x:MV} {key val:Value} (hx:aK w P noAdr x val): ∀{ks vs:List MV} {es:List MapEntry} {j:Nat} {k:MV},ik w P ks vs es→ks[j]? =some k→aK w P noAdr k key→ik w P ks (vs.set j x) (es.modify j fun e=>{ e with key,val })
 | _ :: _,_ :: _,_ :: _,0,k,h,hk,hr=>by injection hk with hk;subst hk;exact⟨hr,hx,h.2.2⟩
 | _ :: _,_ :: _,_ :: _,j + 1,k,h,hk,hr=>⟨h.1,h.2.1,ik.put hx (j:=j) h.2.2 (by simpa using hk) hr⟩
 | [],_,_,j,k,_,hk,_=>by simp at hk
 | _ :: _,[],_,_,_,h,_,_=>h.elim
 | _ :: _,_ :: _,[],_,_,h,_,_=>h.elim
theorem ik.keyAt: ∀{ks vs:List MV} {es:List MapEntry} {j:Nat} {x:MV} {e:MapEntry},ik w P ks vs es→ks[j]? =some x→es[j]? =some e→aK w P noAdr x e.key
 | _ :: _,_ :: _,_ :: _,0,x,e,h,hx,he=>by injection hx with hx;injection he with he;subst hx;subst he;exact h.1
 | _ :: _,_ :: _,_ :: _,j + 1,x,e,h,hx,he=>ik.keyAt (j:=j) h.2.2 (by simpa using hx) (by simpa using he)
 | [],_,_,j,x,_,_,hx,_=>by simp at hx
 | _ :: _,[],_,_,_,_,h,_,_=>h.elim
 | _ :: _,_ :: _,[],_,_,_,h,_,_=>h.elim
theorem yM (hb:Below w.heap.size w w') {b:MB} (h1:aX w' P (aO adr cnt w.heap.size) (aO m cnt b)) (h2:bG w w' P P adr (aO adr cnt w.heap.size)) (hu:aK w' P (aO adr cnt w.heap.size) r u):bI w P adr m cnt r (.new b) u w':=by
 refine⟨P,_,hu,h1,h2,fun c hc=>aJ _ _ hc,fun g hg=>?_,(cG.of_below hb).weak fun _ e=>e.elim,fun _ _ h=> .inl h⟩;rw [aH] at hg;injection hg with hg
 exact .inl (Nat.le_of_eq hg)
theorem oP {c:Nat} {b:MB} {l:List MV} (hn:adr cnt=none) (h1:aX w' P adr (aO m c { b with l:=l })) (k:bG w w' P P adr adr) (hb:m c=some b) (ho: ∀x,(¬ ∃c,adr c=some x)→w'.heap[x]? =w.heap[x]?) (hz:w'.heap.size=w.heap.size)
  (a1:w'.os=w.os) (a2:w'.tape=w.tape) (a3:w'.output=w.output):bI w P adr m cnt .undef (.upd c l) undef w':=by
 refine⟨P,adr, .undef,?_,k,fun _ _=>rfl,fun g hg=>(by rw [hn] at hg;cases hg),⟨a1,a2,a3,Nat.le_of_eq hz.symm,fun x _ hx=>ho x hx⟩,fun _ _ h=> .inl h⟩
 show aX w' P adr (match m c with | some b=>_ | none=>m)
 rw [hb]
 exact h1
theorem tc {s:List UInt8}: ∀{ks vs:List MV} {es:List MapEntry} {i:Nat} {r:Option Nat},ik w P ks vs es→findM s ks i=some r→
  (match r with
   | none=>Instr.findNow .string (.string ⟨s.toArray⟩) es i=some none
   | some j=> ∃n e,j=i + n∧ks[n]? =some (.str s)∧es[n]? =some e∧Instr.findNow .string (.string ⟨s.toArray⟩) es i=some (some (j,e.val)))
 | [],[],[],i,r,_,h=>by injection h with h;subst h;rfl
 | k :: ks,v :: vs,e :: es,i,r,h,hf=>by
  cases k with
  | str x=>
   have hf:(bif s == x then some (some i) else findM s ks (i + 1))=some r:=hf
   have hk:=h.1.str_
   have hb:((⟨s.toArray⟩:ByteArray) == (⟨x.toArray⟩:ByteArray))=(s == x):=by
    by_cases hx:s=x
    ·subst hx;rw [(MapKept.bytes_beq _ _).2 rfl];simp
    ·have hne: ¬ (((⟨s.toArray⟩:ByteArray) == ⟨x.toArray⟩)=true):=fun e=>hx (by have e:=(MapKept.bytes_beq _ _).1 e;injection e with e;simpa using e)
     rw [Bool.not_eq_true] at hne
     rw [hne,beq_eq_false_iff_ne.2 hx]
   cases hs:(s == x) with
   | true=>
    rw [hs] at hf
    injection hf with hf
    subst hf
    have hsx:=eq_of_beq hs
    subst hsx
    exact⟨0,e,rfl,rfl,rfl,by simp [Instr.findNow,hk,Instr.sameNow,hb,hs]⟩
   | false=>
    rw [hs] at hf
    have ih:=tc h.2.2 hf
    have hstep:Instr.findNow .string (.string ⟨s.toArray⟩) (e :: es) i=Instr.findNow .string (.string ⟨s.toArray⟩) es (i + 1):=by simp [Instr.findNow,hk,Instr.sameNow,hb,hs]
    cases r with
    | none=>exact hstep.trans ih
    | some j=>
     obtain⟨n,e',h1,h2,h3,h4⟩:=ih
     exact⟨n + 1,e',om,by simpa using h2,by simpa using h3,hstep.trans h4⟩
  | _=>cases hf
 | [],[],_ :: _,_,_,h,_=>h.elim
 | [],_ :: _,_,_,_,h,_=>h.elim
 | _ :: _,[],_,_,_,h,_=>h.elim
 | _ :: _,_ :: _,[],_,_,h,_=>h.elim
theorem yN {t e:TypeId} (h:Jw Pg t=some e): ∃k,Pg.underlying t=some (.map k e)∧Pg.underlying k=some .string:=by
 unfold Jw at h;split at h
 ·rename_i k e' ht;split at h
  ·rename_i hk;injection h with h;subst h;exact⟨k,ht,hk⟩
  ·cases h
 ·cases h
theorem td (hT:cB Pg T) {t:TypeId} {z:MV} (h:su Pg T t=some z): ∃v,(zeroValue t).run Pg w= .ok v w∧aK w P noAdr z v∧z.isVal=true:=by
 unfold su at h;split at h
 ·rename_i z' hz;cases hb:Ju z'.isAgg (Gd ((Pg.info? t).bind (·.zero))) with
  | false=>rw [hb] at h;cases h
  | true=>
   rw [hb] at h;injection h with h
   subst h;obtain⟨cs,h1,h2,h3⟩:=fK 9 t _ hz;have hz':=h1 [];rw [List.append_nil] at hz';obtain⟨v,hv,hc⟩:=hT.zero hz' w;have hrep:=h2 w P;refine⟨v,hv,?_,h3⟩;have hzv:(Pg.info? t).bind (·.zero)=some v:=by
    cases hi:Pg.info? t with
    | none=>simp [zeroValue,typeInfo,hi,unsupported] at hv
    | some it=>
     cases hzz:it.zero with
     | none=>simp [zeroValue,typeInfo,hi,hzz,unsupported] at hv
     | some z2=>simp [zeroValue,typeInfo,hi,hzz] at hv;simp [hzz,hv]
   rw [hzv] at hb;have e:v=valM z' (cs.map SV.den):=by
    unfold valM;cases ha:z'.isAgg with
    | true=>
     rw [ha] at hb;cases v with
     | agg a=>
      have hc:a.toList=cs.map SV.den:=hc
      show Value.agg a= .agg ⟨cs.map SV.den⟩
      rw [← hc]
     | _=>cases hb
    | false=>
     rw [ha] at hb;have hnv:v.cells.toList= [v] :=by
      cases v with
      | agg a=>cases hb
      | _=>rfl
     rw [hnv] at hc;rw [← hc];rfl
   rw [e];exact .val _ hrep
 ·cases h
theorem kS {x:MV} {y:Value} (ok b:Bool) (hx:aK w P adr x y) (hv:x.isVal=true):aK w P adr (xd ok x b) (if ok then .tuple #[y, .bool b] else y):=by
 cases ok with
 | false=>exact hx
 | true=>
  obtain⟨cs,h1,h2⟩:=hx.ofVal hv;refine .tup [y, .bool b] rfl fun j m u hj hu=>?_
  match j with
  | 0=>simp at hj hu;subst hj;subst hu;exact⟨cs,h1,h2⟩
  | 1=>simp at hj hu;subst hj;subst hu;exact⟨_, .bool,rfl⟩
  | j + 2=>simp at hj
theorem aK.ofNone (h:aK w P noAdr r u):aK w P adr r u:=by
 cases h with
 | val cs h=>exact .val cs h.ofNone
 | undef=>exact .undef
 | tup vs hl h=>exact .tup vs hl fun j m u h1 h2=>by obtain⟨cs,h3,h4⟩:=h j m u h1 h2;exact⟨cs,h3.ofNone,h4⟩
theorem yO (hI:aX w P adr m) (hn:adr cnt=none) (hm:m cnt=none) {t:TypeId} (h:(yG cnt t).runP K) :
  ∃r δ y w',K (r,δ)∧(Instr.makeMap t none).run Pg w= .ok y w'∧bI w P adr m cnt r δ y w':=by
 refine⟨_,_, .map (some w.heap.size),w.alloc (.map #[] 0),h,rfl,?_⟩
 have hb:=Below.alloc1 w (.map #[] 0)
 obtain⟨h1,k⟩:=hI.newG (b:=⟨t,0,false,0,[.mpv [] []]⟩) hn hm hb (fun k=> .inr ⟨rfl,rfl,[],[],_,rfl,heap_alloc_new w _, .inl ⟨0, #[],rfl,trivial⟩⟩) (c₇ _)
 exact yM hb h1 k (.val [_] (.mp _ (aH _ _ _)))
theorem CB (hI:aX w P adr m) {c:Nat} {b:MB} {ks vs:List MV} {g:Nat} (hb:m c=some b) (hl:b.l= [.mpv ks vs]) (hg:adr c=some g): ∃o,w.heap[g]? =some o∧w9 w P ks vs o:=by
 rcases hI.blk c b hb with h1 | ⟨g',h1,h2⟩
 ·rw [hg] at h1;cases h1.2.2.1
 ·rw [hg] at h1;injection h1 with h1
  subst h1;rcases h2.has' with ⟨cur,parts,_,h3,_,h4,_⟩ | ⟨_,_,ks',vs',o,h3,h4,h5⟩
  ·rw [hl] at h3 h4
   match parts,h3 with
   | [p],_=>have:=h4 0 _ p rfl rfl;cases this
  ·rw [hl] at h3;injection h3 with h3
   injection h3 with h3 h6
   subst h3;subst h6;exact⟨o,h4,h5⟩
theorem xg (hI:aX w P adr m) {c:Nat} {b:MB} {ks vs:List MV} {g:Nat} (hb:m c=some b) (hl:b.l= [.mpv ks vs]) (hg:adr c=some g) (hv:vs.length=ks.length): ∃clk es,w.heap[g]? =some (.map es clk)∧ik w P ks vs es.toList:=by
 obtain⟨o,h1,⟨clk,es,rfl,h2⟩ | ⟨s,pos,rfl,rfl,rfl⟩⟩:=CB hI hb hl hg
 ·exact⟨clk,es,h1,h2⟩
 ·cases hv
theorem iW {k:TypeId} (hk:Pg.underlying k=some .string) (e:Bool) (n:Nat) (s:ByteArray):(Instr.checkKey e (n + 1) k (.string s)).run Pg w= .ok () w:=by
 unfold Instr.checkKey;simp [run_underlying hk]
theorem A8 (hI:aX w P adr m) (hn:adr cnt=none) {t:TypeId} {p q x:MV} (h:(gl Pg m t p q x).runP K) (hp:aK w P adr p u) (hq:aK w P adr q v) (hx:aK w P adr x y) :
  ∃δ w',K (.undef,δ)∧(Instr.mapUpdate t u v y).run Pg w= .ok () w'∧bI w P adr m cnt .undef δ undef w':=by
 unfold gl at h
 split at h
 ·rename_i c s
  split at h
  ·rename_i b hb
   split at h
   ·rename_i ks vs hl
    cases hv:(x.isVal && x.idFree) with
    | false=>rw [hv] at h;exact h.elim
    | true=>
     rw [hv] at h
     rw [a₀] at hv
     obtain⟨hkv,e,he,r,hr,h⟩:=h
     obtain⟨k,hu,hks⟩:=yN he
     obtain⟨g,hg,rfl⟩:=hp.mp_
     rw [hq.str_]
     obtain⟨clk,es,hw,hE⟩:=xg hI hb hl hg hkv
     have hxr:aK w P noAdr x y:=by
      obtain⟨cs,h1,h2⟩:=hx.ofVal hv.1
      rw [h2];exact .val cs (h1.free hv.2)
     have hkr:aK w P noAdr (.str s) (.string ⟨s.toArray⟩):= .val [_] .str
     have hf:=tc hE hr
     have hset: ∀(o:Obj),(w.heap.setIfInBounds g o)[g]? =some o∧(∀r',r'≠g→(w.heap.setIfInBounds g o)[r']? =w.heap[r']?):=fun o=>MapKept.heap_set hw
     have hin: ∃c,adr c=some g:=⟨c,hg⟩
     cases r with
     | none=>
      obtain⟨l,hl2,h⟩:=h
      injection hl2 with hl2
      subst hl2
      obtain⟨h1,k1⟩:=hI.writeM (w':={ w with heap:=w.heap.setIfInBounds g (.map (es.push ⟨.string ⟨s.toArray⟩,y,clk⟩) (clk + 1)) }) (ks':=ks ++ [.str s]) (vs':=vs ++ [x]) hb hl hg hw (.inl ⟨clk,es,rfl,hE⟩) (hset _).1 (hset _).2 sm (.inl ⟨_,_,rfl,by rw [Array.toList_push];exact hE.push hkr hxr⟩)
      refine⟨_,_,h,?_,oP hn h1 k1 hb (fun x hx=>(hset _).2 x fun e=>hx ⟨c,by rw [e];exact hg⟩) sm rfl rfl rfl⟩
      simp [Instr.mapUpdate,run_underlying hu,MapKept.run_getObj_map hw,iW hks,MapKept.run_findKey hks hf,MapKept.run_setObj_map _ hw]
     | some j=>
      obtain⟨l,hl2,h⟩:=h
      injection hl2 with hl2
      subst hl2
      obtain⟨n,e',h1,h2,h3,h4⟩:=hf
      have h1:j=n:=om
      subst h1
      obtain⟨h5,k1⟩:=hI.writeM (w':={ w with heap:=w.heap.setIfInBounds g (.map (es.modify j fun e=>{ e with key:= .string ⟨s.toArray⟩,val:=y }) clk) }) (ks':=ks) (vs':=vs.set j x) hb hl hg hw (.inl ⟨clk,es,rfl,hE⟩) (hset _).1 (hset _).2 sm (.inl ⟨_,_,rfl,by rw [Array.toList_modify];exact hE.put hxr h2 hkr⟩)
      refine⟨_,_,h,?_,oP hn (by rw [setL_eq];exact h5) k1 hb (fun x hx=>(hset _).2 x fun e=>hx ⟨c,by rw [e];exact hg⟩) sm rfl rfl rfl⟩
      have hold:((es[j]?).map (·.key)).getD (.string ⟨s.toArray⟩)= .string ⟨s.toArray⟩:=by
       have hk2:=ik.keyAt hE h2 h3
       have:es[j]? =some e':=by rw [← Array.getElem?_toList];exact h3
       rw [this]
       exact hk2.str_
      have hst:(Instr.keyThatStays (.string ⟨s.toArray⟩) (.string ⟨s.toArray⟩)).run Pg w= .ok (.string ⟨s.toArray⟩) w:=by simp [Instr.keyThatStays,Instr.sameBits,(MapKept.bytes_beq _ _).2 rfl]
      simp [Instr.mapUpdate,run_underlying hu,MapKept.run_getObj_map hw,iW hks,MapKept.run_findKey hks h4,hold,hst,MapKept.run_setObj_map _ hw]
   ·exact h.elim
  ·exact h.elim
 ·exact h.elim
theorem A9 (hT:cB Pg T) (hI:aX w P adr m) {t:TypeId} {p q:MV} {ok:Bool} (h:(gH Pg T m t p q ok).runP K) (hp:aK w P adr p u) (hq:aK w P adr q v) :
  ∃r y,K (r, .none)∧(Instr.lookup t u v ok).run Pg w= .ok y w∧aK w P adr r y:=by
 unfold gH at h
 split at h
 ·rename_i c s
  split at h
  ·rename_i b hb
   split at h
   ·rename_i ks vs hl
    obtain⟨hkv,e,he,r,hr,h⟩:=h
    obtain⟨k,hu,hks⟩:=yN he
    obtain⟨g,hg,rfl⟩:=hp.mp_
    rw [hq.str_]
    obtain⟨clk,es,hw,hE⟩:=xg hI hb hl hg hkv
    have hf:=tc hE hr
    cases r with
    | none=>
     obtain⟨z,hz,h⟩:=h
     obtain⟨zv,h1,h2,h3⟩:=td (w:=w) (P:=P) hT hz
     refine⟨_,_,h,?_,kS ok false h2.ofNone h3⟩
     cases ok <;> simp [Instr.lookup,run_underlying hu,MapKept.run_getObj_map hw,iW hks,MapKept.run_findKey hks hf,h1]
    | some j=>
     obtain⟨x,hx,h⟩:=h
     rw [bS] at hx
     cases hv:x.isVal with
     | false=>rw [hv] at h;exact h.elim
     | true=>
      rw [hv] at h
      obtain⟨n,e',h1,h2,h3,h4⟩:=hf
      have h1:j=n:=om
      subst h1
      obtain⟨e2,h5,h6⟩:=hE.at hx
      rw [h3] at h5
      injection h5 with h5
      subst h5
      refine⟨_,_,h,?_,kS ok true h6.ofNone hv⟩
      cases ok <;> simp [Instr.lookup,run_underlying hu,MapKept.run_getObj_map hw,iW hks,MapKept.run_findKey hks h4]
   ·exact h.elim
  ·exact h.elim
 ·exact h.elim
theorem Ej (hT:cB Pg T) (hI:aX w P adr m) (hn:adr cnt=none) (hm:m cnt=none) {t:TypeId} {p:MV} (h:(nY T cnt t p).runP K) (hp:aK w P adr p u) :
  ∃r δ y w',K (r,δ)∧(Instr.range t u).run Pg w= .ok y w'∧bI w P adr m cnt r δ y w':=by
 unfold nY at h
 split at h
 ·rename_i s hd
  have hu:=TD.fits_str (hT.fits hd)
  rw [hp.str_]
  refine⟨_,_, .pointer (some ⟨w.heap.size,0,none⟩),w.alloc (.stringIter ⟨s.toArray⟩ 0),h,by simp [Instr.range,run_underlying hu],?_⟩
  have hb:=Below.alloc1 w (.stringIter ⟨s.toArray⟩ 0)
  obtain⟨h1,k⟩:=hI.newG (b:=⟨t,0,false,0,[.mpv [.str s] [.nilp, .int .i64 (0:Nat)]]⟩) hn hm hb (fun k=> .inr ⟨rfl,rfl,_,_,_,rfl,heap_alloc_new w _, .inr ⟨s,0,rfl,rfl,rfl⟩⟩) (c₇ _)
  exact yM hb h1 k (.val [_] (.ptr (es:=0) (k:=0) (fo:=0) (path:= []) _ (aH _ _ _)))
 ·exact h.elim
theorem Gi (hI:aX w P adr m) (hn:adr cnt=none) {p:MV} {b:Bool} {ty:TypeId} (h:(lB m p b).runP K) (hp:aK w P adr p u) :
  ∃r δ y w',K (r,δ)∧(Instr.next u b ty).run Pg w= .ok y w'∧bI w P adr m cnt r δ y w':=by
 unfold lB at h
 split at h
 ·rename_i c
  split at h
  ·rename_i bb hb
   split at h
   ·rename_i s p0 hl
    obtain⟨pos,hpos,r,hr,h⟩:=h
    obtain⟨g,hg,rfl⟩:=hp.ptr_
    obtain⟨o,hw,⟨clk,es,rfl,hE⟩ | ⟨s',pos',e1,e2,rfl⟩⟩:=CB hI hb hl hg
    ·exact absurd hE.len.2 sm
    injection e1 with e1
    injection e1 with e1
    injection e2 with e2 e3
    injection e3 with e3
    injection e3 with _ e3
    subst e1 e3
    have hpp:pos=pos':=by
     unfold yH at hpos
     split at hpos
     ·injection hpos with hpos;omega
     ·cases hpos
    subst hpp
    injection hr with hr
    have hgo:(getObj g).run Pg w= .ok (.stringIter ⟨s.toArray⟩ pos) w:=by simp [getObj,Sem.run,hw]
    have hsz:(⟨s.toArray⟩:ByteArray).size=s.length:=by simp [ByteArray.size]
    unfold sX at hr
    generalize hdc:Utf8.decode ⟨s.toArray⟩ pos=cw at hr
    obtain⟨cc,wd⟩:=cw
    by_cases hlt:pos < s.length
    ·rw [if_pos hlt] at hr
     subst hr
     have hset: ∀(o:Obj),(w.heap.setIfInBounds g o)[g]? =some o∧(∀r',r'≠g→(w.heap.setIfInBounds g o)[r']? =w.heap[r']?):=fun o=>MapKept.heap_set hw
     have hso: ∀o,(setObj g o).run Pg w= .ok () { w with heap:=w.heap.setIfInBounds g o }:=fun o=>by simp [setObj,Sem.run,hw]
     obtain⟨h1,k1⟩:=hI.writeM (w':={ w with heap:=w.heap.setIfInBounds g (.stringIter ⟨s.toArray⟩ (pos + wd)) }) (ks':= [.str s]) (vs':= [.nilp, .int .i64 (pos + wd:Nat)]) hb hl hg hw (.inr ⟨s,pos,rfl,rfl,rfl⟩) (hset _).1 (hset _).2 sm (.inr ⟨s,_,rfl,rfl,rfl⟩)
     obtain⟨P',adr',_,q2,q3,q4,q5,q6,q7⟩:=oP (cnt:=cnt) hn h1 k1 hb (fun x hx=>(hset _).2 x fun e=>hx ⟨c,by rw [e];exact hg⟩) sm rfl rfl rfl
     refine⟨_,_, .tuple #[.bool true, .int .i64 pos, .int .i32 cc],_,h,?_,P',adr', .tup [.bool true, .int .i64 pos, .int .i32 cc] rfl fun j m u hj hu=>?_,q2,q3,q4,q5,q6,q7⟩
     ·simp [Instr.next,hgo,hsz,hlt,hso,goInt,hdc]
     ·match j with
      | 0=>simp at hj hu;subst hj;subst hu;exact⟨_, .bool,rfl⟩
      | 1=>simp at hj hu;subst hj;subst hu;exact⟨_, .int,rfl⟩
      | 2=>simp at hj hu;subst hj;subst hu;exact⟨_, .int,rfl⟩
      | j + 3=>simp at hj
    ·rw [if_neg hlt] at hr
     subst hr
     have hsame:aO m c { bb with l:= [.mpv [.str s] [.nilp, .int .i64 (pos:Int)]] }=m:=by
      funext x
      by_cases e:x=c
      ·subst e;rw [aH,hb,← hl]
      ·exact aJ _ _ e
     obtain⟨P',adr',_,q2,q3,q4,q5,q6,q7⟩:=oP (w:=w) (w':=w) (P:=P) (cnt:=cnt) (l:= [.mpv [.str s] [.nilp, .int .i64 (pos:Int)]]) hn (by rw [hsame];exact hI) (bG.refl _ _ _) hb (fun _ _=>rfl) rfl rfl rfl rfl
     refine⟨_,_, .tuple #[.bool false],w,h,?_,P',adr', .tup [.bool false] rfl fun j m u hj hu=>?_,q2,q3,q4,q5,q6,q7⟩
     ·simp [Instr.next,hgo,hsz,hlt]
     ·match j with
      | 0=>simp at hj hu;subst hj;subst hu;exact⟨_, .bool,rfl⟩
      | j + 1=>simp at hj
   ·exact h.elim
  ·exact h.elim
 ·exact h.elim
theorem Ba (hT:cB Pg T) {t xT:TypeId} {p:MV} {ok:Bool} (h:(kO Pg T t ok p).runP K) (hp:aK w P adr p u): ∃r y,K (r, .none)∧(Instr.typeAssert u xT t ok).run Pg w= .ok y w∧aK w P adr r y:=by
 unfold kO at h;split at h
 ·exact h.elim
 ·exact h.elim
 ·rename_i t' q d hni hno hd;obtain⟨x,hx⟩:=TD.fits_some (hT.fits hd);have hnx: ∀ms,x≠ .interface ms:=by
   rintro ms rfl;have hff:=hT.fits hd;unfold TD.fitsB at hff;rw [hx] at hff;simp only [a₀] at hff;cases d <;> simp_all
  have hp': ∃cs,u= .iface t' (valM q cs)∧cS w P adr q cs:=by
   cases hp with
   | val cs h1=>cases h1 with | ifc cs h2=>exact ⟨cs,rfl,h2⟩
  obtain⟨cs,rfl,hcs⟩:=hp';split at h
  ·rename_i he;have he:=a₁ he;subst he;cases hv:q.isVal with
   | false=>rw [hv] at h;exact h.elim
   | true=>
    rw [hv] at h;refine⟨_,_,h,?_,kS ok true (.val cs hcs) hv⟩;cases ok <;> cases x <;> first | exact absurd rfl (hnx _) | simp [Instr.typeAssert,run_underlying hx]
  ·rename_i he;have he:t'≠t:=fun e=>by subst e;rw [Nat.beq_refl] at he;cases he
   cases ok with
   | false=>exact h.elim
   | true=>
    obtain⟨z,hz,h⟩:=h;obtain⟨zv,h1,h2,h3⟩:=td (w:=w) (P:=P) hT hz;refine⟨_, .tuple #[zv, .bool false],h,?_,kS true false h2.ofNone h3⟩;cases x <;> first | exact absurd rfl (hnx _) | simp [Instr.typeAssert,run_underlying hx,he,h1]
 ·exact h.elim
end
end
section
section
variable {Pg:Program} {T:bB} {w w':World} {P P':bT} {adr adr':fV} {m:FM} {cnt:Nat} {K:MV×Dl→Prop} {u v x y:Value} {r:MV} {E:Nat→Option MV} {a:Act}
theorem Bb {v:Value} {p:MV} (h:A3 v=some p):aK w P adr p v:=by
 unfold A3 at h;split at h <;> first | (cases h;done) | (injection h with h;subst h)
 ·exact .val [_] .int
 ·exact .val [_] .bool
 ·rename_i s;have:(⟨s.data.toList.toArray⟩:ByteArray)=s:=by cases s;simp
  have h2:=aK.val (w:=w) (P:=P) (adr:=adr) _ (cS.str (s:=s.data.toList));rw [this] at h2;exact h2
 ·exact .val [_] .nilp
 ·exact .val [_] .nils
 ·exact .val [_] .nilf
 ·exact .val [_] .nili
 ·rename_i f;exact .val [_] (cS.fn (f:=f) (caps:= []) [] rfl (fun j m p h=>by simp at h))
def gw (w:World) (P:bT) (adr:fV) (E:Nat→Option MV) (a:Act):Prop:= ∀t v,E t=some v→∃u,a.tmps[t]? =some u∧aK w P adr v u
theorem sw (hE:gw w P adr E a) {x:Operand} {p:MV} (h:iV E x=some p):aK w P adr p (a.eval x):=by
 cases x with
 | tmp t=>
  obtain⟨u,h1,h2⟩:=hE t p h;simpa [Act.eval,h1] using h2
 | const v=>exact Bb h
 | global g=>injection h with h;subst h;exact .val [_] .gp
 | func f=>
  injection h with h;subst h
  exact .val [_] (cS.fn (f:=f) (caps:= []) [] rfl (fun j m p h=>by simp at h))
theorem bH {A:Type} {K:A→Prop} (hE:gw w P adr E a) {x:Operand} {k:MV→bj A} (h:(rd E x k).runP K): ∃p,(k p).runP K∧aK w P adr p (a.eval x):=by
 unfold rd at h;split at h
 ·rename_i p hp;exact⟨p,h,sw hE hp⟩
 ·exact h.elim
inductive dq (w:World) (P:bT) (adr:fV):List MV→List Value→Prop where
 | nil:dq w P adr [] []
 | cons {p v l s} (h:aK w P adr p v) (t:dq w P adr l s):dq w P adr (p :: l) (v :: s)
theorem iX {A:Type} {K:A→Prop} (hE:gw w P adr E a): ∀{xs:List Operand} {k:List MV→bj A},(mS E xs k).runP K→∃ps,(k ps).runP K∧dq w P adr ps (xs.map a.eval)
 | [],k,h=>⟨[],h, .nil⟩
 | x :: xs,k,h=>by
  obtain⟨p,h,hp⟩:=bH hE h
  obtain⟨ps,h,hps⟩:=iX hE h
  exact⟨p :: ps,h, .cons hp hps⟩
theorem CC {A:Type} {K:A→Prop} (hE:gw w P adr E a) {x:Option Operand} {k:Option MV→bj A} (h:(Jt E x k).runP K): ∃p,(k p).runP K∧kP w P adr p (x.map a.eval):=by
 cases x with
 | none=>exact ⟨none,h,trivial⟩
 | some x=>
  obtain⟨p,h,hp⟩:=bH hE h;exact⟨some p,h,hp⟩
theorem n9: ∀{parts:List (Nat×Operand)} {ps:List MV},dq w P adr ps ((parts.map (·.2)).map a.eval)→sZ w P adr ((parts.map (·.1)).zip ps) (parts.map fun x=>(x.1,a.eval x.2))
 | [],_, .nil=>trivial
 | x :: parts,_, .cons h t=>⟨rfl,h,n9 t⟩
theorem dq.caps: ∀{ps:List MV} {vs:List Value},dq w P adr ps vs→(∀p∈ps,p.isVal=true)→∃parts:List (List Value),parts.length=ps.length∧(∀(j:Nat) m p,ps[j]? =some m→parts[j]? =some p→cS w P adr m p)∧vs=a₉ valM ps parts
 | [],_, .nil,_=>⟨[],rfl,fun j m p h=>(by simp at h),rfl⟩
 | p :: ps,_, .cons h t,hv=>by
  obtain⟨parts,h1,h2,h3⟩:=t.caps fun q hq=>hv q (by simp [hq])
  obtain⟨cs,h4,h5⟩:=h.ofVal (hv p sm)
  refine⟨cs :: parts,by simp [h1],fun j m q hj hq=>?_,by rw [h3,h5];rfl⟩
  cases j with
  | zero=>simp at hj hq;subst hj;subst hq;exact h4
  | succ j=>exact h2 j m q (by simpa using hj) (by simpa using hq)
theorem jH {α β:Type} (f:α→β) (l:Array α):l.map f=(l.toList.map f).toArray:=by rw [← List.map_toArray,Array.toArray_toList]
theorem xh {p:MV} (h:(jX p).runP K) (hp:aK w P adr p u):K (p, .none)∧((∃b,u= .pointer (some b))∨(∃f cs,u= .func (.func f) #[] cs)∨∃t z,u= .iface t z):=by
 unfold jX at h;split at h
 ·obtain⟨g,_,e⟩:=hp.ptr_;exact⟨h, .inl ⟨_,e⟩⟩
 ·exact⟨h, .inl ⟨_,hp.gp_⟩⟩
 ·obtain⟨b,o,vs,e,_⟩:=hp.ep_;exact⟨h, .inl ⟨_,e⟩⟩
 ·cases hp with | val cs h1=>cases h1 with | fn parts h2 h3=>exact ⟨h, .inr (.inl ⟨_,_,rfl⟩)⟩
 ·cases hp with | val cs h1=>cases h1 with | ifc cs h2=>exact ⟨h, .inr (.inr ⟨_,_,rfl⟩)⟩
 ·exact h.elim
theorem Ek (hT:cB Pg T) {t:TypeId} {p:MV} (h:(sW T t p).runP K) (hp:aK w P adr p u): ∃r y,K (r, .none)∧(Instr.makeInterface t u).run Pg w= .ok y w∧aK w P adr r y:=by
 unfold sW at h;split at h
 ·exact h.elim
 ·exact h.elim
 ·rename_i d hni hno hd;cases hf:fits d p with
  | false=>rw [hf] at h;exact h.elim
  | true=>
   rw [hf] at h;obtain⟨cs,hcs,rfl,_⟩:=lL hp hf;refine⟨_, .iface t (valM p cs),h,?_, .val [_] (.ifc cs hcs)⟩;obtain⟨x,hx⟩:=TD.fits_some (hT.fits hd);have hnx: ∀ms,x≠ .interface ms:=by
    rintro ms rfl;have hff:=hT.fits hd;unfold TD.fitsB at hff;rw [hx] at hff;simp only [a₀] at hff;cases d <;> simp_all
   simp only [Instr.makeInterface,Sem.run_bind,run_underlying hx,Result.andThen_ok];cases x <;> first | rfl | exact absurd rfl (hnx _)
 ·exact h.elim
theorem Bc {fn:Fn} {first:Array Operand} {ys:List MV} {cs:List Value} (h:(oL fn first ys).runP K) (hp:dq w P adr ys cs): ∃r,K (r, .none)∧aK w P adr r (.func fn (first.map a.eval) cs.toArray):=by
 unfold oL at h;split at h
 ·rename_i f hf;cases hv:ys.all MV.isVal with
  | false=>rw [hv] at h;exact h.elim
  | true=>
   rw [hv] at h;obtain⟨parts,h1,h2,rfl⟩:=hp.caps fun p hp=>b₉.1 hv p hp
   have:first= #[] :=by cases first;simpa using hf
   subst this;refine⟨_,h,?_⟩;rw [show (#[] :Array Operand).map a.eval= #[] by simp];exact .val [_] (.fn parts h1 h2)
 ·exact h.elim
theorem yP {p:MV} {i:Nat} (h:(lK p i).runP K) (hp:aK w P adr p u): ∃r y,K (r, .none)∧(Instr.extract u i).run Pg w= .ok y w∧aK w P adr r y:=by
 unfold lK at h;split at h
 ·rename_i vs;split at h
  ·rename_i q hq;rw [bS] at hq;cases hp with
   | val cs h1=>cases h1
   | tup us hl hr=>
    obtain⟨y,hy⟩:=cZ hl hq;obtain⟨cs,h1,h2⟩:=hr i q y hq hy;refine⟨q,y,h,?_,by rw [h2];exact .val cs h1⟩;simp [Instr.extract,hy]
  ·exact h.elim
 ·exact h.elim
theorem yQ (hT:cB Pg T) (hI:aX w P adr m) (hn:adr cnt=none) (hm:m cnt=none) {b:Builtin} {ats:Array TypeId} {ty:TypeId} {ps:List MV} {vs:List Value} (h:(eI Pg T m cnt b ats ps).runP K) (hp:dq w P adr ps vs) :
  ∃r δ y w',K (r,δ)∧(∀cs,(builtin b ats ty cs vs.toArray).run Pg w= .ok (.value y) w')∧bI w P adr m cnt r δ y w':=by
 have lift: ∀{s:Sem Value} {v:Value} {w':World},s.run Pg w= .ok v w'→(do pure (.value (← s)):Sem Next).run Pg w= .ok (.value v) w':=by
  intro s v w' hs
  rw [Sem.run_bind,hs];rfl
 unfold eI at h
 split at h
 ·split at h
  ·cases hp with | cons h1 t=>cases t with
   | nil=>
    obtain⟨r,y,hk,hr,hrep⟩:=Jx (ty:=ty) hT h h1
    exact⟨r, .none,y,w,hk,fun _=>lift hr,bI.pure hI hn hrep⟩
  ·exact h.elim
 ·split at h
  ·cases hp with | cons h1 t=>cases t with | cons h2 t=>cases t with
   | nil=>
    obtain⟨r,δ,y,w',hk,hr,hpo⟩:=A6 (ty:=ty) hT hI hn hm h h1 h2
    exact⟨r,δ,y,w',hk,fun _=>lift hr,hpo⟩
  ·exact h.elim
 ·split at h
  ·rename_i k i k' j
   obtain⟨r,hr,h⟩:=h
   injection hr with hr
   subst hr
   cases hp with | cons h1 t=>cases t with | cons h2 t=>cases t with
   | nil=>
    rw [h1.int_,h2.int_]
    exact⟨_, .none,_,w,h,fun _=>lift (run_min_int2 ..),bI.pure hI hn (.val [_] .int)⟩
  ·exact h.elim
 ·split at h
  ·rename_i k i k' j
   obtain⟨r,hr,h⟩:=h
   injection hr with hr
   subst hr
   cases hp with | cons h1 t=>cases t with | cons h2 t=>cases t with
   | nil=>
    rw [h1.int_,h2.int_]
    exact⟨_, .none,_,w,h,fun _=>lift (run_max_int2 ..),bI.pure hI hn (.val [_] .int)⟩
  ·exact h.elim
 ·exact h.elim
theorem Gj (hT:cB Pg T) (hI:aX w P adr m) (hn:adr cnt=none) (hm:m cnt=none) (hE:gw w P adr E a) {o:Oper} (h:(iH Pg T E m cnt o).runP K) :
  ∃r δ,K (r,δ)∧D8 Pg o a w (bI w P adr m cnt r δ):=by
 have pur: ∀{s:Sem Value} (ho:execOp a.eval o=(do pure (.value (← s)))),(∃r y,K (r, .none)∧s.run Pg w= .ok y w∧aK w P adr r y)→∃r δ,K (r,δ)∧D8 Pg o a w (bI w P adr m cnt r δ):=by
  rintro s ho ⟨r,y,hk,hr,hrep⟩
  exact⟨r, .none,hk,D8.val s ho hr (bI.pure hI hn hrep)⟩
 have mem: ∀{s:Sem Value} (ho:execOp a.eval o=(do pure (.value (← s)))),(∃r δ y w',K (r,δ)∧s.run Pg w= .ok y w'∧bI w P adr m cnt r δ y w')→∃r δ,K (r,δ)∧D8 Pg o a w (bI w P adr m cnt r δ):=by
  rintro s ho ⟨r,δ,y,w',hk,hr,hp⟩
  exact⟨r,δ,hk,D8.val s ho hr hp⟩
 have dir: ∀{p:MV} {u:Value},execOp a.eval o=pure (.value u)→K (p, .none)→aK w P adr p u→∃r δ,K (r,δ)∧D8 Pg o a w (bI w P adr m cnt r δ):=by
  intro p u ho hk hp
  exact⟨p, .none,hk, .inl ⟨u,w,by rw [ho];rfl,bI.pure hI hn hp⟩⟩
 obtain⟨dst,op,ty,pos,after,guard⟩:=o
 cases op with
 | move x=>obtain ⟨p,h,hp⟩:=bH hE h;exact dir rfl h hp
 | assign x=>obtain ⟨p,h,hp⟩:=bH hE h;exact dir rfl h hp
 | pick c b d=>
  obtain⟨pc,h,hpc⟩:=bH hE h
  obtain⟨pb,h,hpb⟩:=bH hE h
  obtain⟨pd,h,hpd⟩:=bH hE h
  cases pc with
  | bool t=>
   have hc:=hpc.bool_
   cases t with
   | true=>exact ⟨pb, .none,h.1 rfl, .inl ⟨a.eval b,w,by simp [execOp,hc,asBool],bI.pure hI hn hpb⟩⟩
   | false=>exact ⟨pd, .none,h.2 rfl, .inl ⟨a.eval d,w,by simp [execOp,hc,asBool],bI.pure hI hn hpd⟩⟩
  | _=>exact h.elim
 | alloc t=>
  replace h:(kN T cnt t).runP K:=h
  unfold kN at h
  split at h
  ·rename_i d z hd hz
   cases hf:fits d z with
   | false=>rw [hf] at h;exact h.elim
   | true=>
    rw [hf] at h
    obtain⟨y,w',hr,hp⟩:=Ge hT hI hn hm hz hf
    exact mem (s:=Instr.alloc t true (.tuple #[])) rfl ⟨_,_,y,w',h,hr,hp⟩
  ·exact h.elim
 | box t x=>
  obtain⟨p,h,hp⟩:=bH hE h
  replace h:(yF T cnt t p).runP K:=h
  unfold yF at h
  split at h
  ·rename_i d hd
   cases hf:fits d p with
   | false=>rw [hf] at h;exact h.elim
   | true=>
    rw [hf] at h
    obtain⟨y,w',hr,hp⟩:=LW (t:=t) hI hn hm hf hp
    exact mem (s:=Instr.box t (a.eval x)) rfl ⟨_,_,y,w',h,hr,hp⟩
  ·exact h.elim
 | build t parts=>
  obtain⟨ps,h,hps⟩:=iX hE h
  refine pur (s:=Instr.build t (parts.map fun x=>(x.1,a.eval x.2))) rfl ?_
  rw [jH]
  exact Eg hT h (n9 hps)
 | buildSlice t n parts=>
  obtain⟨ps,h,hps⟩:=iX hE h
  refine mem (s:=Instr.buildSlice t n (parts.map fun x=>(x.1,a.eval x.2))) rfl ?_
  rw [jH]
  have hz:=n9 hps
  have h9:(match mT n ((parts.toList.map (fun x:Nat×Operand=>x.1)).zip ps) with | some x=>eH T m cnt t x.1 x.2.1 x.2.2.1 x.2.2.2 | none=>dR T cnt t n ((parts.toList.map (fun x:Nat×Operand=>x.1)).zip ps)).runP K:=h
  generalize (parts.toList.map (fun x:Nat×Operand=>x.1)).zip ps=zs at h9 hz
  split at h9
  ·rename_i x hx
   obtain⟨rfl,rfl⟩:=lN hx
   generalize parts.toList.map (fun x=>(x.1,a.eval x.2))=pv at hz
   match pv,hz with
   | [(j,u)],hz=>
    obtain⟨rfl,hz,_⟩:=hz
    exact xf hT hI hn hm h9 hz
  ·exact lM hT hI hn hm h9 hz
 | load t x=>
  obtain⟨p,h,hp⟩:=bH hE h
  exact pur (s:=Instr.loadAt t (a.eval x)) rfl (yJ hT h hp hI)
 | store t x y=>
  obtain⟨p,h,hp⟩:=bH hE h
  obtain⟨q,h,hq⟩:=bH hE h
  obtain⟨δ,w',hk,hr,hpo⟩:=Ec hT h hp hq hI hn
  exact⟨_,δ,hk,D8.unit (Instr.storeAt t (a.eval x) (a.eval y)) rfl hr hpo⟩
 | nilCheck x=>
  obtain⟨p,h,hp⟩:=bH hE h
  obtain⟨hk,hu⟩:=xh h hp
  refine⟨p, .none,hk, .inl ⟨a.eval x,w,?_,bI.pure hI hn hp⟩⟩
  rcases hu with ⟨b,e⟩ | ⟨f,cs,e⟩ | ⟨t,z,e⟩ <;> simp [execOp,e]
 | binOp op t x y ty'=>
  obtain⟨p,h,hp⟩:=bH hE h
  obtain⟨q,h,hq⟩:=bH hE h
  exact pur (s:=do eqGuard op t x y (a.eval x) (a.eval y);binOp op t (a.eval x) (a.eval y)) rfl (JB hT h hp hq)
 | unOp op t x=>
  obtain⟨p,h,hp⟩:=bH hE h
  exact pur (s:=Op.unary op (a.eval x)) rfl (LV h hp)
 | convert src dst' x=>
  obtain⟨p,h,hp⟩:=bH hE h
  obtain⟨r,y,w',hk,hr,hpo⟩:=Gf hT hI hn h hp
  exact mem (s:=convert src dst' (a.eval x)) rfl ⟨r, .none,y,w',hk,hr,hpo⟩
 | makeInterface t x=>
  obtain⟨p,h,hp⟩:=bH hE h
  exact pur (s:=Instr.makeInterface t (a.eval x)) rfl (Ek hT h hp)
 | makeFunc fn first captured=>
  obtain⟨ps,h,hps⟩:=iX hE h
  obtain⟨r,hk,hr⟩:=Bc (a:=a) h hps
  refine dir ?_ hk hr
  show(do pure (.value (← Instr.makeFunc fn (first.map a.eval) (captured.map a.eval))):Sem Next)=_
  rw [jH a.eval captured]
  rfl
 | makeSlice t l c=>
  obtain⟨p,h,hp⟩:=bH hE h
  obtain⟨q,h,hq⟩:=bH hE h
  exact mem (s:=Instr.makeSlice t (a.eval l) (a.eval c)) rfl (vn hT hI hn hm h hp hq)
 | slice t x lo hi mx=>
  cases mx with
  | some _=>exact h.elim
  | none=>
   obtain⟨p,h,hp⟩:=bH hE h
   obtain⟨pl,h,hl⟩:=CC hE h
   obtain⟨ph,h,hh⟩:=CC hE h
   exact mem (s:=Instr.sliceAt t (a.eval x) (lo.map a.eval) (hi.map a.eval) none) rfl (A7 hT hI hn h hp hl hh)
 | fieldAddr t x f=>
  obtain⟨p,h,hp⟩:=bH hE h
  exact pur (s:=Instr.fieldAt t (a.eval x) f) rfl (vj hT h hp)
 | field t x f=>
  obtain⟨p,h,hp⟩:=bH hE h
  exact pur (s:=Instr.field t (a.eval x) f) rfl (Ee hT h hp)
 | indexAddr t x ix=>
  obtain⟨p,h,hp⟩:=bH hE h
  obtain⟨q,h,hq⟩:=bH hE h
  exact pur (s:=Instr.indexAt t (a.eval x) (a.eval ix)) rfl (vk hT h hp hq)
 | index t x ix=>
  obtain⟨p,h,hp⟩:=bH hE h
  obtain⟨q,h,hq⟩:=bH hE h
  exact pur (s:=Instr.index t (a.eval x) (a.eval ix)) rfl (Ed hT h hp hq)
 | extract x i=>
  obtain⟨p,h,hp⟩:=bH hE h
  exact pur (s:=Instr.extract (a.eval x) i) rfl (yP h hp)
 | makeMap t r=>
  cases r with
  | some _=>exact h.elim
  | none=>exact mem (s:=Instr.makeMap t none) rfl (yO hI hn hm h)
 | mapUpdate t p k x=>
  obtain⟨p',h,hp⟩:=bH hE h
  obtain⟨q,h,hq⟩:=bH hE h
  obtain⟨x',h,hx⟩:=bH hE h
  obtain⟨δ,w',hk,hr,hpo⟩:=A8 hI hn h hp hq hx
  exact⟨_,δ,hk,D8.unit (Instr.mapUpdate t (a.eval p) (a.eval k) (a.eval x)) rfl hr hpo⟩
 | lookup t p k ok=>
  obtain⟨p',h,hp⟩:=bH hE h
  obtain⟨q,h,hq⟩:=bH hE h
  exact pur (s:=Instr.lookup t (a.eval p) (a.eval k) ok) rfl (A9 hT hI h hp hq)
 | range t x=>
  obtain⟨p,h,hp⟩:=bH hE h
  exact mem (s:=Instr.range t (a.eval x)) rfl (Ej hT hI hn hm h hp)
 | next x b=>
  obtain⟨p,h,hp⟩:=bH hE h
  exact mem (s:=Instr.next (a.eval x) b ty) rfl (Gi hI hn h hp)
 | typeAssert x xT t ok=>
  obtain⟨p,h,hp⟩:=bH hE h
  exact pur (s:=Instr.typeAssert (a.eval x) xT t ok) rfl (Ba hT h hp)
 | call c=>
  obtain⟨callee,args,ats⟩:=c
  cases callee with
  | value f=>exact h.elim
  | invoke r n=>exact h.elim
  | builtin b=>
   obtain⟨ps,h,hps⟩:=iX hE h
   obtain⟨r,δ,y,w',hk,hr,hpo⟩:=yQ (ty:=ty) hT hI hn hm h hps
   refine⟨r,δ,hk, .inl ⟨y,w',?_,hpo⟩⟩
   rw [← jH] at hr
   have e:execOp a.eval ⟨dst, .call ⟨.builtin b,args,ats⟩,ty,pos,after,guard⟩=builtin b ats ty (args.map fun | .const _=>true | _=>false) (args.map a.eval):=by
    simp [execOp,resolve,invoke]
    rfl
   rw [e]
   exact hr _
 | _=>exact h.elim
end
end
section
theorem VE.get_cons {E:VE} {d t:Nat} {v:MV}:VE.get ((d,v) :: E) t=if d=t then some v else VE.get E t:=by
 show(bif a₂ d t then some v else VE.get E t)=_
 by_cases h:d=t
 ·subst h;simp
 ·simp [gE h,h]
theorem VM.get_cons {M:VM} {d t:Nat} {v:MB}:VM.get ((d,v) :: M) t=if d=t then some v else VM.get M t:=by
 show(bif a₂ d t then some v else VM.get M t)=_
 by_cases h:d=t
 ·subst h;simp
 ·simp [gE h,h]
theorem VM.del_cons {M:VM} {d t:Nat} {v:MB}:VM.del ((d,v) :: M) t=if d=t then VM.del M t else(d,v) :: VM.del M t:=by
 show(bif a₂ d t then VM.del M t else(d,v) :: VM.del M t)=_
 by_cases h:d=t
 ·subst h;simp
 ·simp [gE h,h]
theorem VM.upd_cons {M:VM} {d t:Nat} {v:MB} {l:List MV}:VM.upd ((d,v) :: M) t l=if d=t then(d,{ v with l:=l }) :: VM.upd M t l else(d,v) :: VM.upd M t l:=by
 show(bif a₂ d t then _ else _)=_
 by_cases h:d=t
 ·subst h;simp
 ·simp [gE h,h]
theorem VM.bump1_cons {M:VM} {d t n:Nat} {v:MB}:VM.bump1 ((d,v) :: M) t n=if d=t then(d,{ v with pe:=b₀ v.pe n }) :: VM.bump1 M t n else(d,v) :: VM.bump1 M t n:=by
 show(bif a₂ d t then _ else _)=_
 by_cases h:d=t
 ·subst h;simp
 ·simp [gE h,h]
theorem VM.get_del: ∀(M:VM) (c x:Nat),VM.get (VM.del M c) x=iT (VM.get M) c x
 | [],c,x=>by simp [VM.del,VM.get,iT]
 | (d,v) :: M,c,x=>by
  have ih:=VM.get_del M c x
  unfold iT at ih ⊢
  rw [VM.del_cons,VM.get_cons]
  by_cases h:d=c
  ·subst h
   rw [if_pos rfl,ih]
   by_cases hx:x=d
   ·simp [hx]
   ·simp [hx,Ne.symm hx]
  ·rw [if_neg h,VM.get_cons,ih]
   by_cases hx:x=c
   ·subst hx;simp [h]
   ·by_cases hd:d=x <;> simp [hx,hd]
theorem VM.get_upd: ∀(M:VM) (c x:Nat) (l:List MV),VM.get (VM.upd M c l) x=(match VM.get M c with | some b=>aO (VM.get M) c { b with l:=l } | none=>VM.get M) x
 | [],c,x,l=>by simp [VM.upd,VM.get]
 | (d,v) :: M,c,x,l=>by
  have ih:=VM.get_upd M c x l
  rw [VM.upd_cons,VM.get_cons]
  by_cases h:d=c
  ·subst h
   rw [if_pos rfl,if_pos rfl,VM.get_cons]
   show _=aO _ d _ x
   unfold aO
   by_cases hx:d=x
   ·subst hx;simp
   ·rw [if_neg hx,if_neg (Ne.symm hx),VM.get_cons,if_neg hx,ih]
    cases VM.get M d with
    | none=>rfl
    | some b=>exact aJ _ _ (Ne.symm hx)
  ·rw [if_neg h,if_neg h,VM.get_cons]
   by_cases hx:d=x
   ·subst hx
    rw [if_pos rfl]
    cases VM.get M c with
    | none=>simp [VM.get_cons]
    | some b=>show _=aO _ c _ d;rw [aJ _ _ h,VM.get_cons,if_pos rfl]
   ·rw [if_neg hx,ih]
    cases VM.get M c with
    | none=>simp [VM.get_cons,hx]
    | some b=>
     show aO _ c _ x=aO _ c _ x
     unfold aO
     by_cases hc:x=c
     ·simp [hc]
     ·simp [hc,VM.get_cons,hx]
theorem VM.get_bump1: ∀(M:VM) (c x n:Nat),VM.get (VM.bump1 M c n) x=(match VM.get M c with | some b=>aO (VM.get M) c { b with pe:=b₀ b.pe n } | none=>VM.get M) x
 | [],c,x,l=>by simp [VM.bump1,VM.get]
 | (d,v) :: M,c,x,l=>by
  have ih:=VM.get_bump1 M c x l
  rw [VM.bump1_cons,VM.get_cons]
  by_cases h:d=c
  ·subst h
   rw [if_pos rfl,if_pos rfl,VM.get_cons]
   show _=aO _ d _ x
   unfold aO
   by_cases hx:d=x
   ·subst hx;simp
   ·rw [if_neg hx,if_neg (Ne.symm hx),VM.get_cons,if_neg hx,ih]
    cases VM.get M d with
    | none=>rfl
    | some b=>exact aJ _ _ (Ne.symm hx)
  ·rw [if_neg h,if_neg h,VM.get_cons]
   by_cases hx:d=x
   ·subst hx
    rw [if_pos rfl]
    cases VM.get M c with
    | none=>simp [VM.get_cons]
    | some b=>show _=aO _ c _ d;rw [aJ _ _ h,VM.get_cons,if_pos rfl]
   ·rw [if_neg hx,ih]
    cases VM.get M c with
    | none=>simp [VM.get_cons,hx]
    | some b=>
     show aO _ c _ x=aO _ c _ x
     unfold aO
     by_cases hc:x=c
     ·simp [hc]
     ·simp [hc,VM.get_cons,hx]
theorem VM.get_bump: ∀(l:List (Nat×Nat)) (M:VM),VM.get (VM.bump M l)=dk (VM.get M) l
 | [],M=>rfl
 | (c,n) :: l,M=>by
  rw [VM.bump,VM.get_bump l,dk]
  congr 1
  funext x
  exact VM.get_bump1 M c x n
theorem Dl.get_app (cnt:Nat) (δ:Dl) (M:VM):VM.get (δ.app cnt M)=δ.appF cnt (VM.get M):=by
 funext x;cases δ with
 | none=>rfl
 | new b=>
  show VM.get ((cnt,b) :: M) x=aO _ _ _ x
  rw [VM.get_cons];unfold aO;by_cases h:cnt=x
  ·simp [h]
  ·simp [h,Ne.symm h]
 | upd c l=>exact VM.get_upd M c x l
 | mv c b=>
  show VM.get ((cnt,b) :: VM.del M c) x=aO (iT _ c) cnt b x
  rw [VM.get_cons,VM.get_del];unfold aO;by_cases h:cnt=x
  ·simp [h]
  ·simp [h,Ne.symm h]
 | bump l=>show VM.get (VM.bump M l) x=_;rw [VM.get_bump];rfl
section
variable {w w':World} {P P':bT} {adr adr':fV} {m m0:FM}
def fj (m0 m:FM):Prop:= ∀c b,m0 c=some b→∃b',m c=some b'∧b'.l=b.l∧b'.row=b.row∧b'.es=b.es∧b'.ty=b.ty
theorem fj.refl (m:FM):fj m m:=fun _c b h=>⟨b,h,rfl,rfl,rfl,rfl⟩
theorem fj.bump (h:fj m0 m) (c n:Nat):fj m0 (match m c with | some b=>aO m c { b with pe:=b₀ b.pe n } | none=>m):=by
 intro x b hb;obtain⟨b',h1,h2,h3,h4,h5⟩:=h x b hb;cases hc:m c with
 | none=>exact ⟨b',h1,h2,h3,h4,h5⟩
 | some y=>
  by_cases e:x=c
  ·subst e;rw [hc] at h1;injection h1 with h1
   subst h1;exact⟨_,aH _ _ _,h2,h3,h4,h5⟩
  ·exact⟨b',by rw [← h1];exact aJ _ _ e,h2,h3,h4,h5⟩
theorem qy: ∀(l r:List (Nat×Nat)) (m:FM),dk m (l ++ r)=dk (dk m l) r
 | [],r,m=>rfl
 | (c,n) :: l,r,m=>by
  show dk _ (l ++ r)=dk (dk _ l) r
  exact qy l r _
def OQ (w:World) (P:bT) (adr:fV) (m:FM) (bs:List (Nat×Nat)) (R:bT→Prop):Prop:=
 ∃P',aX w P' adr (dk m bs)∧bG w w P P' adr adr∧(∀x o,P' x o→P x o∨∃c,adr c=some x)∧R P'
mutual
theorem Gk: ∀{p:MV} {cs:List Value} {K:MV×List (Nat×Nat)→Prop} {P:bT} {m:FM},(dA m0 p).runP K→cS w P adr p cs→fj m0 m→aX w P adr m→
  ∃p' bs,K (p',bs)∧p'.isAgg=p.isAgg∧fj m0 (dk m bs)∧OQ w P adr m bs fun P'=>cS w P' noAdr p' cs
 | p,cs,K,P,m,h,hp,hs,hI=>by
  have keep:(bj.ret (p,[])).runP K→cS w P noAdr p cs→∃p' bs,K (p',bs)∧p'.isAgg=p.isAgg∧fj m0 (dk m bs)∧OQ w P adr m bs fun P'=>cS w P' noAdr p' cs:=
   fun h hr=>⟨p,[],h,rfl,hs,P,hI,bG.refl _ _ _,fun _ _ h=> .inl h,hr⟩
  cases hp with
  | int=>exact keep h .int
  | bool=>exact keep h .bool
  | str=>exact keep h .str
  | nilp=>exact keep h .nilp
  | ptr g hg=>
   rename_i c es k fo path
   simp only [dA] at h
   split at h
   ·rename_i b hb
    cases he:a₂ b.es es with
    | false=>rw [he] at h;exact h.elim
    | true=>
     rw [he] at h
     obtain⟨v,hv,h⟩:=h
     cases hf:v.idFree with
     | false=>rw [hf] at h;exact h.elim
     | true=>
      rw [hf] at h
      have hes:=a₁ he
      obtain⟨b',hb',e1,e2,e3,e4⟩:=hs c b hb
      rcases hI.blk c b' hb' with h1 | ⟨g',h1,h2⟩
      ·rw [hg] at h1;cases h1.2.2.1
      ·rw [hg] at h1
       injection h1 with h1
       subst h1
       have hkl:k + 1≤b'.l.length:=by
        rw [e1]
        have:=(bS b.l k).symm.trans hv
        exact(a₃.1 this).1
       obtain⟨P',a1,a2,a3,a4⟩:=hI.bump1 hb' (n:=k + 1) hkl
       have e5:dk m [(c,k + 1)] =aO m c { b' with pe:=b₀ b'.pe (k + 1) }:=by
        show(match m c with | some b=>_ | none=>m)=_
        rw [hb']
       obtain⟨cur,parts,c1,c2,c3,c4,c5⟩:=h2.ofX (k:=k) (x:=v) (by rw [e1];exact(bS b.l k).symm.trans hv) (fun ks vs e=>by subst e;cases hf)
       have hpl:parts.length=b'.l.length:=c2
       have hk:k < parts.length:=om
       have hpes: ∀p∈parts,p.length=es:=fun p hp=>by rw [c3 p hp,e3,hes]
       have hpk:parts[k]? =some parts[k] :=by simp [hk]
       have hrep:=c4 k v parts[k] (by rw [e1];exact(bS b.l k).symm.trans hv) hpk
       refine⟨.ep v fo path,[(c,k + 1)],h,rfl,hs.bump c (k + 1),P',by rw [e5];exact a1,a2,a3,?_⟩
       refine .ep g (k * es) parts[k] (fun j u hj=>?_) ((hrep.free hf).ofNone.keep (a2.same _))
       have hjl:=(a₃.1 hj).1
       rw [hpes _ (d₀ hk)] at hjl
       refine⟨?_,a4 g hg _ ?_⟩
       ·rw [cell_of_row w g _ cur b'.ty (0,0) c1]
        have:=dW c5 (dP hpes k 1 (x:=u) (by
         have:(parts.drop k).take 1= [parts[k]] :=by rw [c₆ hk];rfl
         rw [this];simpa using hj) om)
        simpa using this
       ·rw [e3,hes,c₃];omega
   ·exact h.elim
  | gp=>exact keep h .gp
  | ep b o vs hc hr=>exact keep h (.ep b o vs hc hr)
  | sl A cap es parts h1 h2 h3 h4 h5 h6 h7=>exact keep h (.sl A cap es parts h1 h2 h3 h4 h5 h6 h7)
  | nils=>
   refine⟨.sl 0 [],[],h,rfl,hs,P,hI,bG.refl _ _ _,fun _ _ h=> .inl h,?_⟩
   exact .sl none 0 0 [] rfl rfl (fun p hp=>nomatch hp) (fun _=>⟨rfl,rfl⟩) (b₂ _) (fun h=>absurd rfl h) (fun j m p h=>by simp at h)
  | ms0=>
   rename_i c es
   simp only [dA] at h
   split at h
   ·rename_i b hb
    split at h
    ·rename_i hrow
     obtain⟨hle,l,hl,h⟩:=h
     injection hl with hl
     have hl0:l= [] :=by rw [← hl];simp [cutL]
     subst hl0
     obtain⟨b',hb',e1,e2,e3,e4⟩:=hs c b hb
     obtain⟨P',a1,a2,a3,a4⟩:=hI.bump1 hb' (n:=0 + 0) (c₇ _)
     have e5:dk m [(c,0 + 0)] =aO m c { b' with pe:=b₀ b'.pe (0 + 0) }:=by
      show(match m c with | some b=>_ | none=>m)=_
      rw [hb']
     refine⟨.sl 0 [],[(c,0 + 0)],h,rfl,?_,P',by rw [e5];exact a1,a2,a3,?_⟩
     ·exact hs.bump c (0 + 0)
     ·exact .sl none 0 0 [] rfl rfl (fun p hp=>nomatch hp) (fun _=>⟨rfl,rfl⟩) (b₂ _) (fun h=>absurd rfl h) (fun j m p h=>by simp at h)
    ·exact h.elim
   ·exact h.elim
  | ms g o cap hg ho hcap hcap2 hsz=>
   rename_i c es off n
   simp only [dA] at h
   split at h
   ·rename_i b hb
    split at h
    ·rename_i hrow
     obtain⟨hle,l,hl,h⟩:=h
     injection hl with hl
     subst hl
     obtain⟨b',hb',e1,e2,e3,e4⟩:=hs c b hb
     rcases hI.blk c b' hb' with h1 | ⟨g',h1,h2⟩
     ·rw [hg] at h1;cases h1.2.2.1
     ·rw [hg] at h1
      injection h1 with h1
      subst h1
      obtain⟨P',a1,a2,a3,a4⟩:=hI.bump1 hb' (n:=off + n) (by rw [e1];exact hle)
      have e5:dk m [(c,off + n)] =aO m c { b' with pe:=b₀ b'.pe (off + n) }:=by
       show(match m c with | some b=>_ | none=>m)=_
       rw [hb']
      obtain⟨cur,parts,c1,c2,c3,c4,c5⟩:=h2.ofR (by rw [e2];exact(a₀ _ _▸hrow).1)
      rw [a₀] at hrow
      have hes:=a₁ hrow.2
      rw [e2,hrow.1] at c4
      have hcut:(cutL b.l off (off + n)).length=n:=by unfold cutL;rw [a₅,a₆];omega
      have hpl:parts.length=b.l.length:=by rw [c2,e1]
      have hpes: ∀p∈parts,p.length=es:=fun p hp=>by rw [c3 p hp,e3,hes]
      have hall: ∀p∈(parts.drop off).take n,p.length=es:=fun p hp=>hpes p (b₇ (b₈ hp))
      have hlen2:((parts.drop off).take n).length=n:=by rw [a₅,a₆];omega
      refine⟨.sl n (cutL b.l off (off + n)),[(c,off + n)],h,rfl,hs.bump c (off + n),P',by rw [e5];exact a1,a2,a3,?_⟩
      refine .sl (some ⟨g,o,none⟩) cap es ((parts.drop off).take n) hcut hlen2 hall (fun h=>nomatch h) hcap (fun hn0=>⟨g,o,rfl,fun j u hj=>?_⟩) fun j x p hx hp=>?_
      ·have ho:=ho (.inl hn0)
       subst ho
       have hjl:=(a₃.1 hj).1
       rw [aR hall,hlen2] at hjl
       refine⟨?_,a4 g hg _ ?_⟩
       ·rw [cell_of_row w g _ cur b'.ty (0,0) c1]
        have:=dW c5 (dP hpes off n hj om)
        simpa using this
       ·rw [e3,hes,c₃];omega
      ·obtain⟨hx,hj⟩:=ji hx
       rw [c₁] at hp
       split at hp
       ·rw [c₂] at hp
        exact(c4 _ x p (by rw [e1];exact hx) hp).keep (a2.same noAdr)
       ·cases hp
    ·exact h.elim
   ·exact h.elim
  | fn parts hl hr=>
   rename_i f l
   simp only [dA] at h
   obtain⟨l',bs,h,ha,h2,P',h3,h4,h5,h6,h7⟩:=sx (bj.bind_runP.1 h) hl hr hs hI
   refine⟨.fn f l',bs,h,rfl,h2,P',h3,h4,h5,?_⟩
   have e:a₉ valM l parts=a₉ valM l' parts:=by
    have key: ∀(l l':List MV) (parts:List (List Value)),l'.map MV.isAgg=l.map MV.isAgg→a₉ valM l parts=a₉ valM l' parts:=by
     intro l
     induction l with
     | nil=>intro l' parts h;cases l' with | nil=>rfl | cons a b=>simp at h
     | cons a l ih=>
      intro l' parts h
      cases l' with
      | nil=>simp at h
      | cons a' l'=>
       simp only [c₅,List.cons.injEq] at h
       cases parts with
       | nil=>rfl
       | cons q parts=>
        simp only [c₈]
        rw [ih l' parts h.2]
        congr 1
        unfold valM
        rw [h.1]
    exact key l l' parts ha
   rw [e]
   exact .fn parts h6 h7
  | nilf=>exact keep h .nilf
  | mp g hg=>simp only [dA] at h;exact h.elim
  | nili=>exact keep h .nili
  | ifc cs hr=>
   rename_i t v
   simp only [dA] at h
   obtain⟨v',bs,h,ha,h2,P',h3,h4,h5,h6⟩:=Gk (bj.bind_runP.1 h) hr hs hI
   refine⟨.ifc t v',bs,h,rfl,h2,P',h3,h4,h5,?_⟩
   have e:valM v cs=valM v' cs:=by unfold valM;rw [ha]
   rw [e]
   exact .ifc cs h6
  | st parts hl hr=>
   rename_i l
   simp only [dA] at h
   obtain⟨l',bs,h,ha,h2,P',h3,h4,h5,h6,h7⟩:=sx (bj.bind_runP.1 h) hl hr hs hI
   exact⟨.st l',bs,h,rfl,h2,P',h3,h4,h5, .st parts h6 h7⟩
  | arr parts h1 h2 h3 h4=>exact keep h (.arr parts h1 h2 h3 h4)
theorem sx: ∀{l:List MV} {parts:List (List Value)} {K:List MV×List (Nat×Nat)→Prop} {P:bT} {m:FM},(gg m0 l).runP K→parts.length=l.length→(∀(j:Nat) x p,l[j]? =some x→parts[j]? =some p→cS w P adr x p)→fj m0 m→aX w P adr m→
  ∃l' bs,K (l',bs)∧l'.map MV.isAgg=l.map MV.isAgg∧fj m0 (dk m bs)∧OQ w P adr m bs fun P'=>parts.length=l'.length∧∀(j:Nat) x p,l'[j]? =some x→parts[j]? =some p→cS w P' noAdr x p
 | [],[],K,P,m,h,_,_,hs,hI=>⟨[],[],h,rfl,hs,P,hI,bG.refl _ _ _,fun _ _ h=> .inl h,rfl,fun j x p h=>by simp at h⟩
 | x :: l,q :: parts,K,P,m,h,hl,hr,hs,hI=>by
  have h:(dA m0 x).runP fun a=>(gg m0 l).runP fun r=>K (a.1 :: r.1,a.2 ++ r.2):=by
   simp only [gg] at h
   exact h
  obtain⟨x',bs,h,ha,hs1,P1,i1,k1,p1,r1⟩:=Gk h (hr 0 x q rfl rfl) hs hI
  obtain⟨l',bs2,h,ha2,hs2,P2,i2,k2,p2,hl2,r2⟩:=sx h (by simpa using hl) (fun j y p hy hp=>(hr (j + 1) y p hy hp).keep k1) hs1 i1
  refine⟨x' :: l',bs ++ bs2,h,by simp [ha,ha2],by rw [qy];exact hs2,P2,by rw [qy];exact i2,k1.trans k2,fun x o hp=>?_,by simp [hl2],fun j y p hy hp=>?_⟩
  ·rcases p2 x o hp with hp | hp
   ·exact p1 x o hp
   ·exact .inr hp
  ·cases j with
   | zero=>simp at hy hp;subst hy;subst hp;exact r1.keep (k2.same noAdr)
   | succ j=>exact r2 j y p (by simpa using hy) (by simpa using hp)
 | [],_ :: _,_,_,_,_,h,_,_,_=>by simp at h
 | _ :: _,[],_,_,_,_,h,_,_,_=>by simp at h
end
end
end
section
structure GS where
 ok:World→Prop
 L:Nat→Prop
 lt: ∀w g,ok w→L g→g < w.heap.size
 stab: ∀w w' (ex:Fp),ok w→(∀g,ex g→¬ L g)→cG ex w w'→ok w'
structure El where
 ex:Fp
 adr0:fV
 n0:Nat
 lt: ∀c g,adr0 c=some g→c < n0
def Gl:El:=⟨fun _=>False,noAdr,0,fun _ _ h=>nomatch h⟩
def aE (Pg:Program) (G:GS) (f:FuncId) (args:List MV) (res:MV):Prop:=
 ∀(w:World) (P:bT) (vals:List Value),G.ok w→(∀b o,P b o→b < w.heap.size)→dq w P noAdr args vals→
  Calls Pg f vals.toArray w fun e w'=> ∃v,e= .returned v∧aK w' (iU w w' P) noAdr res v∧Below w.heap.size w w'
def qq (o:Oper):Nat:=match o.op with
 | .alloc _=>1
 | .box .. =>1
 | .buildSlice _ n _=>match n with
  | 1=>3
  | _=>1
 | .makeSlice .. =>1
 | .load .. =>2
 | .slice .. =>2
 | .convert .. =>2
 | .store .. =>3
 | .makeMap .. =>1
 | .range .. =>1
 | .next .. =>3
 | .lookup .. =>2
 | .mapUpdate .. =>3
 | .call c=>match c.callee with
  | .builtin .append=>3
  | .builtin _=>0
  | _=>2
 | _=>0
def Pf:Nat→Nat→Bool
 | 0,_=>true
 | _,0=>true
 | 1,1=>true
 | 2,1=>true
 | 2,2=>true
 | _,_=>false
def te (ops:Array Oper):Nat→Nat→Nat→Bool
 | 0,_,_=>false
 | f + 1,y,x=>match ops[y]? with
  | some o=>o.after.toList.any fun e=>Region.binds .any e && (a₂ e.on x || te ops f e.on x)
  | none=>false
abbrev VK:=VE→VM→Nat→Prop
section
variable (Pg:Program) (T:bB) (N:Nat) (ents:List FuncId) (G:GS)
def er (dst:Option Tmp) (r:MV) (E:VE) (K:VE→Prop):Prop:=match dst with
 | none=>K E
 | some d=>match b₁ d N with
  | true=>K ((d,r) :: E)
  | false=>False
def rI (E:VE) (M:VM) (f:Operand) (args:List Operand):bj (FuncId×List MV×List (Nat×Nat)):=
 rd (VE.get E) f fun fv=>mS (VE.get E) args fun vs=>match fv with
  | .fn f0 caps=>(gg (VM.get M) (vs ++ caps)).bind fun r=> .ret (f0,r.1,r.2)
  | _=> .bad
def vp (o:Oper) (E:VE) (M:VM) (n:Nat) (K:MV→VM→Prop):Prop:=match o.op with
 | .call c=>match c.callee with
  | .value f=>(rI E M f c.args.toList).runP fun x=>match ents.contains x.1 with
   | true=> ∃res,aE Pg G x.1 x.2.1 res∧K res (VM.bump M x.2.2)
   | false=>False
  | _=>(iH Pg T (VE.get E) (VM.get M) n o).runP fun x=>K x.1 (x.2.app n M)
 | _=>(iH Pg T (VE.get E) (VM.get M) n o).runP fun x=>K x.1 (x.2.app n M)
def qz:Nat→List MV→VE
 | _,[] => []
 | i,v :: l=>(i,v) :: qz (i + 1) l
end
structure iP (w0:World) (ex0:El) (P0:bT) (w:World) (P:bT) (adr:fV):Prop where
 in_: ∀c g,adr c=some g→w0.heap.size≤g∨ex0.ex g
 old: ∀c,c < ex0.n0→adr c=ex0.adr0 c
 keep:bG w0 w P0 P ex0.adr0 adr
structure oQ (N:Nat) (w0:World) (ex0:El) (P0:bT) (E:Nat→Option MV) (m:FM) (n:Nat) (a:Act) (w:World):Prop where
 ex: ∃P adr,aX w P adr m∧gw w P adr E a∧(∀c,n≤c→adr c=none)∧iP w0 ex0 P0 w P adr∧(∀b o,P b o→P0 b o∨w0.heap.size≤b∨ex0.ex b)
 fresh: ∀c,n≤c→m c=none
 ge:ex0.n0≤n
 since:cG ex0.ex w0 w
 defers:a.defers= []
 size:a.tmps.size=N
section
variable {Pg:Program} {T:bB} {N:Nat} {ents:List FuncId} {G:GS} {w0 w w':World} {ex0:El} {P0 P:bT} {adr:fV} {E:VE} {M:VM} {m:FM} {n:Nat} {a:Act} {r:MV} {u:Value} {δ:Dl}
theorem gw.put (hE:gw w' P adr (VE.get E) a) (hs:a.tmps.size=N) {d:Nat} (hd:d < N) (h:aK w' P adr r u):gw w' P adr (VE.get ((d,r) :: E)) (a.put (some d) u):=by
 intro t v ht;rw [VE.get_cons] at ht;simp only [Act.put,Array.getElem?_setIfInBounds];split at ht
 ·rename_i e;subst e;injection ht with ht
  subst ht;exact⟨u,by simp [hs,hd],h⟩
 ·rename_i e;rw [if_neg e];exact hE t v ht
theorem oQ.post (hs:oQ N w0 ex0 P0 (VE.get E) (VM.get M) n a w) {E2:VE} (_hI:aX w P adr (VM.get M)) (hE:gw w P adr (VE.get E2) a) (hn: ∀c,n≤c→adr c=none) (hg:iP w0 ex0 P0 w P adr) (hp: ∀b o,P b o→P0 b o∨w0.heap.size≤b∨ex0.ex b)
  (hpo:bI w P adr (VM.get M) n r δ u w') {dst:Option Tmp} {K:VE→Prop} (hK:er N dst r E2 K): ∃E',K E'∧oQ N w0 ex0 P0 (VE.get E') (VM.get (δ.app n M)) (n + 1) (a.put dst u) w':=by
 obtain⟨P',adr',h1,h2,h3,h4,h5,h6,h7⟩:=hpo
 have hE':gw w' P' adr' (VE.get E2) a:=fun t v ht=>by
  obtain⟨u,e1,e2⟩:=hE t v ht
  exact⟨u,e1,e2.keep h3⟩
 have hsize:=hs.since.size
 have common: ∀{E':VE} {a':Act},gw w' P' adr' (VE.get E') a'→a'.defers= [] →a'.tmps.size=N→oQ N w0 ex0 P0 (VE.get E') (VM.get (δ.app n M)) (n + 1) a' w':=by
  intro E' a' e1 e2 e3
  refine⟨⟨P',adr',by rw [Dl.get_app];exact h2,e1,fun c hc=>?_,⟨fun c g hc=>?_,fun c hc=>(h4 c (by have:=hs.ge;omega)).trans (hg.old c hc),hg.keep.trans h3⟩,fun b o ho=>?_⟩,fun c hc=>?_,by have:=hs.ge;omega,?_,e2,e3⟩
  ·rw [h4 c om];exact hn c om
  ·by_cases e:c=n
   ·subst e
    rcases h5 g hc with h | ⟨c',h⟩
    ·exact .inl (b₃ hsize h)
    ·exact hg.in_ c' g h
   ·rw [h4 c e] at hc;exact hg.in_ c g hc
  ·rcases h7 b o ho with h | h | ⟨c',h⟩
   ·exact hp b o h
   ·exact .inr (.inl (b₃ hsize h))
   ·rcases hg.in_ c' b h with h | h
    ·exact .inr (.inl h)
    ·exact .inr (.inr h)
  ·rw [Dl.get_app]
   have hf:=hs.fresh c om
   cases δ with
   | none=>exact hf
   | new b=>show aO _ _ _ c=none;rw [aJ _ _ om];exact hf
   | upd c' l=>
    show(match VM.get M c' with | some b=>aO (VM.get M) c' { b with l:=l } | none=>VM.get M) c=none
    cases hb:VM.get M c' with
    | none=>exact hf
    | some b=>
     show aO _ c' _ c=none
     rw [aJ]
     ·exact hf
     ·rintro rfl;rw [hf] at hb;cases hb
   | mv c' b=>
    show aO _ _ _ c=none
    rw [aJ _ _ om]
    unfold iT
    split
    ·rfl
    ·exact hf
   | bump l=>
    show dk (VM.get M) l c=none
    have key: ∀(l:List (Nat×Nat)) (m:FM),m c=none→dk m l c=none:=by
     intro l
     induction l with
     | nil=>intro m h;exact h
     | cons x l ih=>
      obtain⟨c',k⟩:=x
      intro m h
      refine ih _ ?_
      cases hb:m c' with
      | none=>exact h
      | some b=>
       show aO _ c' _ c=none
       rw [aJ]
       ·exact h
       ·rintro rfl;rw [h] at hb;cases hb
    exact key l _ hf
  ·exact⟨h6.os.trans hs.since.os,h6.tape.trans hs.since.tape,h6.output.trans hs.since.output,b₃ hsize h6.size,fun b hb hne=>(h6.block b (a₇ hb hsize) (fun⟨c,hc⟩=>by
    rcases hg.in_ c b hc with h | h
    ·omega
    ·exact hne h)).trans (hs.since.block b hb hne)⟩
 unfold er at hK
 split at hK
 ·exact⟨E2,hK,common hE' hs.defers hs.size⟩
 ·rename_i d
  split at hK
  ·rename_i hd
   have hd':d < N:=by simpa [c₀] using hd
   exact⟨_,hK,common (hE'.put hs.size hd' h1) hs.defers (by simp [Act.put,hs.size])⟩
  ·exact hK.elim
theorem dq.app: ∀{l s:List MV} {vs us:List Value},dq w P adr l vs→dq w P adr s us→dq w P adr (l ++ s) (vs ++ us)
 | _,_,_,_, .nil,h=>h
 | _,_,_,_, .cons h t,h2=> .cons h (t.app h2)
theorem dq.of_parts: ∀{l:List MV} {parts:List (List Value)},parts.length=l.length→(∀(j:Nat) m p,l[j]? =some m→parts[j]? =some p→cS w P adr m p)→dq w P adr l (a₉ valM l parts)
 | [],[],_,_=> .nil
 | m :: l,p :: parts,hl,hr=> .cons (.val p (hr 0 m p rfl rfl)) (dq.of_parts (by simpa using hl) fun j m p h1 h2=>hr (j + 1) m p h1 h2)
 | [],_ :: _,h,_=>by simp at h
 | _ :: _,[],h,_=>by simp at h
theorem oR: ∀{l l':List MV} {parts:List (List Value)},l'.map MV.isAgg=l.map MV.isAgg→a₉ valM l' parts=a₉ valM l parts
 | [],[],_,_=>rfl
 | a :: l,a' :: l',[],_=>rfl
 | a :: l,a' :: l',q :: parts,h=>by
  simp only [c₅,List.cons.injEq] at h
  simp only [c₈]
  rw [oR h.2]
  congr 1
  unfold valM
  rw [h.1]
 | [],_ :: _,_,h=>by simp at h
 | _ :: _,[],_,h=>by simp at h
mutual
theorem vK: ∀{m:FM} {p:MV} {K:MV×List (Nat×Nat)→Prop},(dA m p).runP K→p.isVal=true∧∃x,x.1.isVal=true∧K x
 | m, .ms c es off n,K,h=>by
  simp only [dA] at h
  split at h
  ·split at h
   ·obtain⟨_,l,_,h⟩:=h;exact⟨rfl,_,rfl,h⟩
   ·exact h.elim
  ·exact h.elim
 | m, .st l,K,h=>by simp only [dA] at h;obtain⟨_,x,h2,h⟩:=gS (bj.bind_runP.1 h);exact⟨rfl,_,rfl,h⟩
 | m, .fn f l,K,h=>by simp only [dA] at h;obtain⟨_,x,h2,h⟩:=gS (bj.bind_runP.1 h);exact⟨rfl,_,rfl,h⟩
 | m, .ifc t v,K,h=>by simp only [dA] at h;obtain⟨_,x,h2,h⟩:=vK (bj.bind_runP.1 h);exact⟨rfl,_,rfl,h⟩
 | m, .ptr c es k fo path,K,h=>by
  simp only [dA] at h
  split at h
  ·rename_i b hb
   cases he:a₂ b.es es with
   | false=>rw [he] at h;exact h.elim
   | true=>
    rw [he] at h
    obtain⟨v,_,h⟩:=h
    cases hf:v.idFree with
    | false=>rw [hf] at h;exact h.elim
    | true=>rw [hf] at h;exact⟨rfl,_,rfl,h⟩
  ·exact h.elim
 | m, .tup _,K,h=>by simp only [dA] at h;exact h.elim
 | m, .undef,K,h=>by simp only [dA] at h;exact h.elim
 | m, .mp _,K,h=>by simp only [dA] at h;exact h.elim
 | m, .mpv ..,K,h=>by simp only [dA] at h;exact h.elim
 | m, .int ..,K,h=>by simp only [dA] at h;exact⟨rfl,_,rfl,h⟩
 | m, .bool ..,K,h=>by simp only [dA] at h;exact⟨rfl,_,rfl,h⟩
 | m, .str ..,K,h=>by simp only [dA] at h;exact⟨rfl,_,rfl,h⟩
 | m, .nilp,K,h=>by simp only [dA] at h;exact⟨rfl,_,rfl,h⟩
 | m, .gp ..,K,h=>by simp only [dA] at h;exact⟨rfl,_,rfl,h⟩
 | m, .ep ..,K,h=>by simp only [dA] at h;exact⟨rfl,_,rfl,h⟩
 | m, .sl ..,K,h=>by simp only [dA] at h;exact⟨rfl,_,rfl,h⟩
 | m, .nils,K,h=>by simp only [dA] at h;exact⟨rfl,_,rfl,h⟩
 | m, .nilf,K,h=>by simp only [dA] at h;exact⟨rfl,_,rfl,h⟩
 | m, .nili,K,h=>by simp only [dA] at h;exact⟨rfl,_,rfl,h⟩
 | m, .arr ..,K,h=>by simp only [dA] at h;exact⟨rfl,_,rfl,h⟩
theorem gS: ∀{m:FM} {l:List MV} {K:List MV×List (Nat×Nat)→Prop},(gg m l).runP K→(∀p∈l,p.isVal=true)∧∃x,(∀p∈x.1,p.isVal=true)∧K x
 | m,[],K,h=>⟨fun p hp=>(nomatch hp),([],[]),fun p hp=>(nomatch hp),h⟩
 | m,q :: l,K,h=>by
  simp only [gg] at h
  obtain⟨h1,x,hx,h2⟩:=vK (bj.bind_runP.1 h)
  obtain⟨h3,y,hy,h4⟩:=gS (bj.bind_runP.1 h2)
  refine⟨fun p hp=>?_,_,fun p hp=>?_,h4⟩
  ·rcases b₄.1 hp with rfl | hp
   ·exact h1
   ·exact h3 p hp
  ·rcases b₄.1 hp with rfl | hp
   ·exact hx
   ·exact hy p hp
end
theorem qA {l:List MV} {vs:List Value} {K:List MV×List (Nat×Nat)→Prop} (h:(gg m l).runP K) (hp:dq w P adr l vs) (hI:aX w P adr m) :
  ∃l' bs,K (l',bs)∧∃P',aX w P' adr (dk m bs)∧bG w w P P' adr adr∧(∀x o,P' x o→P x o∨∃c,adr c=some x)∧dq w P' noAdr l' vs:=by
 obtain⟨hx,_⟩:=gS h
 obtain⟨parts,h1,h2,rfl⟩:=hp.caps hx
 obtain⟨l',bs,hK,ha,_,P',h3,h4,h5,h6,h7⟩:=sx h h1 h2 (fj.refl m) hI
 refine⟨l',bs,hK,P',h3,h4,h5,?_⟩
 have:=dq.of_parts h6 h7
 rw [oR ha] at this
 exact this
structure jZ (Pg:Program) (T:bB) (ents:List FuncId) (G:GS) (w0:World) (ex0:El):Prop where
 seat:Seat Pg T ents
 good: ∀w,cG ex0.ex w0 w→G.ok w
 out: ∀g,ex0.ex g→¬ G.L g
 lt: ∀g,G.L g→g < w0.heap.size
theorem JC (hS:jZ Pg T ents G w0 ex0) {o:Oper} {E2:VE} {K:MV→VM→Prop} (h:vp Pg T ents G o E2 M n K) (hI:aX w P adr (VM.get M)) (hn: ∀c,n≤c→adr c=none) (hf: ∀c,n≤c→VM.get M c=none) (hE:gw w P adr (VE.get E2) a) (hs:cG ex0.ex w0 w)
  {next:Act→World→Prop} {Q:Exit→Act→World→Prop} (hK: ∀r δ u w',K r (δ.app n M)→bI w P adr (VM.get M) n r δ u w'→next (a.put o.dst u) w'):o.wp Pg a w next Q:=by
 have plain:(iH Pg T (VE.get E2) (VM.get M) n o).runP (fun x=>K x.1 (x.2.app n M))→o.wp Pg a w next Q:=by
  intro h
  obtain⟨r,δ,hk,hr⟩:=Gj hS.seat.tab hI (hn n (b₂ _)) (hf n (b₂ _)) hE h
  unfold Oper.wp
  rcases hr with ⟨u,w',h1,h2⟩ | ⟨w',h1,h2⟩
  ·rw [h1];exact hK r δ u w' hk h2
  ·rw [h1];exact hK r δ undef w' hk h2
 obtain⟨dst,op,ty,pos,after,guard⟩:=o
 cases op with
 | call c=>
  obtain⟨callee,args,ats⟩:=c
  cases callee with
  | builtin b=>exact plain h
  | invoke r n=>exact plain h
  | value f=>
   replace h:(rI E2 M f args.toList).runP fun x=>match ents.contains x.1 with | true=> ∃res,aE Pg G x.1 x.2.1 res∧K res (VM.bump M x.2.2) | false=>False:=h
   unfold rI at h
   obtain⟨pf,h,hpf⟩:=bH hE h
   obtain⟨ps,h,hps⟩:=iX hE h
   cases pf with
   | fn f0 caps=>
    replace h:=bj.bind_runP.1 h
    generalize hu:a.eval f=uf at hpf
    cases hpf with
    | val cs hfn=>
     cases hfn with
     | fn parts hpl hpr=>
      have hall:=hps.app (dq.of_parts hpl hpr)
      obtain⟨l',bs,h,P',h1,h2,h3,h4⟩:=qA h hall hI
      replace h:(match ents.contains f0 with | true=> ∃res,aE Pg G f0 l' res∧K res (VM.bump M bs) | false=>False):=h
      split at h
      ·rename_i hc
       obtain⟨res,hsem,hk⟩:=h
       have hrun:(execOp a.eval ⟨dst, .call ⟨.value f,args,ats⟩,ty,pos,after,guard⟩).run Pg w= .ok (.enter f0 (args.toList.map a.eval ++ a₉ valM caps parts).toArray) w:=by
        have he:=hS.seat.enters f0 (by simpa using hc) (args.toList.map a.eval ++ a₉ valM caps parts).toArray w
        rw [← he]
        have hmap:args.map a.eval=(args.toList.map a.eval).toArray:=jH _ _
        simp [execOp,resolve,hu,valM,MV.isAgg,Deferred.ofValue,invoke,hmap]
       unfold Oper.wp
       rw [hrun]
       refine(hsem w P' _ (hS.good w hs) h1.prot h4).mono ?_
       rintro e w' ⟨v,rfl,h5,h6⟩
       refine hK res (.bump bs) v w' hk ⟨iU w w' P',adr,?_,by exact h1.below h6,h2.trans (bG.below h1.prot h6),fun _ _=>rfl,fun g hg=>(by rw [hn n (b₂ _)] at hg;cases hg),(cG.of_below h6).weak fun _ e=>e.elim,fun b o hb=>?_⟩
       ·exact h5.keep ⟨fun _ _ h=>h,fun _ _ _=>rfl,fun _ _ h=>(nomatch h),fun _ _ _ _ h=>nomatch h⟩
       ·rcases hb with hb | hb
        ·rcases h3 b o hb with hb | hb
         ·exact .inl hb
         ·exact .inr (.inr hb)
        ·exact .inr (.inl hb.1)
      ·exact h.elim
   | _=>exact h.elim
 | _=>exact plain h
end
end
section
section
variable {Pg:Program} {T:bB} {N:Nat} {ents:List FuncId} {G:GS} {w0 w w':World} {ex0:El} {P0 P:bT} {adr:fV} {E:VE} {M:VM} {m:FM} {n:Nat} {a:Act} {r:MV} {u:Value} {δ:Dl}
theorem oQ.know (hs:oQ N w0 ex0 P0 (VE.get E) (VM.get M) n a w) {s:Nat} {t:Bool} (h:VE.get E s=some (.bool t)):a.tmps[s]? =some (.bool t):=by
 obtain⟨P,adr,_,hE,_⟩:=hs.ex;obtain⟨u,h1,h2⟩:=hE s _ h;rw [h1,h2.bool_]
theorem gw.know (hE:gw w P adr (VE.get E) a) {s:Nat} {v:MV} (h:VE.get E s=some v):gw w P adr (VE.get ((s,v) :: E)) a:=by
 intro t x ht;rw [VE.get_cons] at ht;split at ht
 ·rename_i e;subst e;injection ht with ht;subst ht;exact hE s v h
 ·exact hE t x ht
mutual
theorem ir: ∀{m:FM} {p:MV} {K K':MV×List (Nat×Nat)→Prop},(dA m p).runP K→(∀x,K x→K' x)→(dA m p).runP K'
 | m, .ms c es off n,K,K',h,hk=>by
  simp only [dA] at h ⊢
  split at h
  ·split at h
   ·obtain⟨a1,l,a2,h⟩:=h;exact⟨a1,l,a2,hk _ h⟩
   ·exact h.elim
  ·exact h.elim
 | m, .st l,K,K',h,hk=>by simp only [dA] at h ⊢;exact dE (bj.bind_runP.1 h) fun _ h=>hk _ h
 | m, .fn f l,K,K',h,hk=>by simp only [dA] at h ⊢;exact dE (bj.bind_runP.1 h) fun _ h=>hk _ h
 | m, .ifc t v,K,K',h,hk=>by simp only [dA] at h ⊢;exact ir (bj.bind_runP.1 h) fun _ h=>hk _ h
 | m, .ptr c es k fo path,K,K',h,hk=>by
  simp only [dA] at h ⊢
  split at h
  ·rename_i b hb
   cases he:a₂ b.es es with
   | false=>rw [he] at h;exact h.elim
   | true=>
    rw [he] at h
    obtain⟨v,h1,h⟩:=h
    cases hf:v.idFree with
    | false=>rw [hf] at h;exact h.elim
    | true=>rw [hf] at h;exact⟨v,h1,by simp only [hf];exact hk _ h⟩
  ·exact h.elim
 | m, .tup _,K,K',h,hk=>by simp only [dA] at h;exact h.elim
 | m, .undef,K,K',h,hk=>by simp only [dA] at h;exact h.elim
 | m, .mp _,K,K',h,hk=>by simp only [dA] at h;exact h.elim
 | m, .mpv ..,K,K',h,hk=>by simp only [dA] at h;exact h.elim
 | m, .int ..,K,K',h,hk=>by simp only [dA] at h ⊢;exact hk _ h
 | m, .bool ..,K,K',h,hk=>by simp only [dA] at h ⊢;exact hk _ h
 | m, .str ..,K,K',h,hk=>by simp only [dA] at h ⊢;exact hk _ h
 | m, .nilp,K,K',h,hk=>by simp only [dA] at h ⊢;exact hk _ h
 | m, .gp ..,K,K',h,hk=>by simp only [dA] at h ⊢;exact hk _ h
 | m, .ep ..,K,K',h,hk=>by simp only [dA] at h ⊢;exact hk _ h
 | m, .sl ..,K,K',h,hk=>by simp only [dA] at h ⊢;exact hk _ h
 | m, .nils,K,K',h,hk=>by simp only [dA] at h ⊢;exact hk _ h
 | m, .nilf,K,K',h,hk=>by simp only [dA] at h ⊢;exact hk _ h
 | m, .nili,K,K',h,hk=>by simp only [dA] at h ⊢;exact hk _ h
 | m, .arr ..,K,K',h,hk=>by simp only [dA] at h ⊢;exact hk _ h
theorem dE: ∀{m:FM} {l:List MV} {K K':List MV×List (Nat×Nat)→Prop},(gg m l).runP K→(∀x,K x→K' x)→(gg m l).runP K'
 | m,[],K,K',h,hk=>hk _ h
 | m,q :: l,K,K',h,hk=>by
  simp only [gg] at h ⊢
  exact ir (bj.bind_runP.1 h) fun x hx=>dE (bj.bind_runP.1 hx) fun y hy=>hk _ hy
end
end
end
section
def mxB:List (Nat×Nat)→Nat→Nat
 | [],_=>0
 | (k,n) :: l,c=>if k=c then b₀ n (mxB l c) else mxB l c
theorem bumpF_get: ∀{l:List (Nat×Nat)} {m:FM} {c:Nat},dk m l c=(m c).map fun b=>{ b with pe:=b₀ b.pe (mxB l c) }
 | [],m,c=>by
  show m c=_
  cases m c with
  | none=>rfl
  | some b=>simp [mxB]
 | (k,n) :: l,m,c=>by
  show dk (match m k with | some b=>aO m k { b with pe:=b₀ b.pe n } | none=>m) l c=_
  rw [bumpF_get]
  by_cases hk:k=c
  ·subst hk
   cases hb:m k with
   | none=>simp [hb]
   | some b=>simp [aO,mxB,Nat.max_assoc]
  ·have hk':c≠k:=fun h=>hk h.symm
   cases hb:m k with
   | none=>simp [mxB,hk]
   | some b=>simp [aO,mxB,hk,hk']
abbrev Fz:=Nat→Option (MB×Nat)
def kI (M:VM):List (Nat×Nat)→Fz
 | [],_=>none
 | (x,k) :: l,c=>bif a₂ x c then(match VM.get M c with | some b=>some (b,k) | none=>none) else kI M l c
def NC (fz:Fz) (v:MV) (n:Nat) (l:List MV):Prop:=match v with
 | .ms c es off n'=>match fz c with
  | some (b,k)=>b.row=true∧b.es=es∧n'=n∧off + n≤k∧cutL b.l off (off + n)=l
  | none=>False
 | .nils=>n=0∧l= []
 | _=>False
def NF (fz:Fz) (v:MV) (x:MV) (fo:Nat) (path:List Nat):Prop:=match v with
 | .ptr c es k fo' path'=>match fz c with
  | some (b,kk)=>b.es=es∧k < kk∧fo'=fo∧path'=path∧bW b.l k=some x∧x.idFree=true
  | none=>False
 | _=>False
def eu (σ:Nat→Option Nat) (fz:Fz):MV→MV→Prop
 | .ms c es off n,v=>(v= .nils∧off=0∧n=0)∨∃c0,σ c=some c0∧v= .ms c0 es off n
 | .ptr c es k fo path,v=> ∃c0,σ c=some c0∧v= .ptr c0 es k fo path
 | .st l,v=>(MV.st l=v∧MV.idFrees l=true)∨∃l0,v= .st l0∧relVs σ fz l l0
 | .fn f l,v=>(MV.fn f l=v∧MV.idFrees l=true)∨∃l0,v= .fn f l0∧relVs σ fz l l0
 | .ifc t x,v=>(MV.ifc t x=v∧x.idFree=true)∨∃y,v= .ifc t y∧eu σ fz x y
 | .sl n l,v=>MV.sl n l=v∨NC fz v n l
 | .ep x fo path,v=>MV.ep x fo path=v∨NF fz v x fo path
 | .mp c,v=> ∃c0,σ c=some c0∧v= .mp c0
 | m,v=>m=v∧m.idFree=true
where relVs (σ:Nat→Option Nat) (fz:Fz):List MV→List MV→Prop
 | [],[] =>True
 | m :: l,v :: r=>eu σ fz m v∧relVs σ fz l r
 | _,_=>False
def mV:List (Nat×Nat)→Nat→Option Nat
 | [],_=>none
 | (a,b) :: l,c=>bif a₂ a c then some b else mV l c
def da (n0:Nat) (σ:List (Nat×Nat)) (c:Nat):Option Nat:=bif b₁ c n0 then some c else mV σ c
def mE (σ:Nat→Option Nat) (fz:Fz):VE→VE→Prop
 | [],_=>True
 | (t,v) :: E',E=>(∃u,VE.get E t=some u∧eu σ fz v u)∧mE σ fz E' E
def OR (b' b:MB):Prop:=b'.row=b.row∨(b.row=true∧b'.row=false∧b'.l=b.l∧b.l≠ [])∨(b.row=false∧b'.row=true∧MV.idFrees b'.l=true)
def CD:List MV→Bool
 | [.mpv _ _] =>true
 | _=>false
theorem Em {l:List MV} (h:CD l=true): ∃ks vs,l= [.mpv ks vs] :=by
 unfold CD at h;split at h
 ·exact⟨_,_,rfl⟩
 ·cases h
def mB (σ:Nat→Option Nat) (fz:Fz) (M:VM) (c:Nat) (b':MB):Prop:=
 (b'.row=true∧b'.l= [] ∧b'.pe=0∧σ c=none)∨∃c0 b,σ c=some c0∧VM.get M c0=some b∧b'.ty=b.ty∧b'.es=b.es∧OR b' b∧(b'.pe=b.pe∨(b.pe≤b'.pe∧b'.pe≤b'.l.length))∧(b'.l=b.l∧(b.row || CD b.l)=true∨eu.relVs σ fz b'.l b.l)
def mM (σ:Nat→Option Nat) (fz:Fz):VM→VM→Prop
 | [],_=>True
 | (c,b') :: M',M=>mB σ fz M c b'∧mM σ fz M' M
def En:List (Nat×Nat)→Bool
 | [] =>true
 | (_,b) :: l=>l.all (fun x=> !a₂ x.2 b) && En l
def r9 (n0 n':Nat) (σ:List (Nat×Nat)):Bool:=c₄ n0 n' && En σ && σ.all (fun x=>b₁ x.1 n' && c₄ n0 x.1 && c₄ n0 x.2)
def Bd (M:VM):List (Nat×Nat)→Prop
 | [] =>True
 | (c,k) :: l=>(match VM.get M c with | some b=>k≤b.l.length | none=>False)∧Bd M l
def gI (n0:Nat) (E':VE) (M':VM) (n':Nat) (E:VE) (M:VM):Prop:=
 ∃(σ bs:List (Nat×Nat)),r9 n0 n' σ=true∧Bd M bs∧M'.all (fun x=>b₁ x.1 n')=true∧mE (da n0 σ) (kI M bs) E' E∧mM (da n0 σ) (kI M bs) M' (VM.bump M bs)
def eB (n0:Nat) (l':List MV) (M':VM) (n':Nat) (l:List MV) (M:VM) (σ bs:List (Nat×Nat)):Prop:=
 r9 n0 n' σ=true∧Bd M bs∧M'.all (fun x=>b₁ x.1 n')=true∧eu.relVs (da n0 σ) (kI M bs) l' l∧mM (da n0 σ) (kI M bs) M' (VM.bump M bs)
theorem tf {σ:Nat→Option Nat} {fz:Fz}: ∀{p v:MV},eu σ fz p v→p.isAgg=v.isAgg
 | .ms c es off n,v,h=>by rcases h with ⟨rfl,_⟩ | ⟨_,_,rfl⟩ <;> rfl
 | .ptr ..,v,h=>by obtain⟨_,_,rfl⟩:=h;rfl
 | .st ..,v,h=>by rcases h with ⟨rfl,_⟩ | ⟨_,rfl,_⟩ <;> rfl
 | .fn ..,v,h=>by rcases h with ⟨rfl,_⟩ | ⟨_,rfl,_⟩ <;> rfl
 | .ifc ..,v,h=>by rcases h with ⟨rfl,_⟩ | ⟨_,rfl,_⟩ <;> rfl
 | .sl n l,v,h=>by
  rcases h with rfl | h
  ·rfl
  ·unfold NC at h;split at h <;> first | rfl | exact h.elim
 | .ep x fo path,v,h=>by
  rcases h with rfl | h
  ·rfl
  ·unfold NF at h;split at h <;> first | rfl | exact h.elim
 | .int ..,v,h=>by obtain⟨rfl,_⟩:=h;rfl
 | .bool ..,v,h=>by obtain⟨rfl,_⟩:=h;rfl
 | .str ..,v,h=>by obtain⟨rfl,_⟩:=h;rfl
 | .nilp,v,h=>by obtain⟨rfl,_⟩:=h;rfl
 | .gp ..,v,h=>by obtain⟨rfl,_⟩:=h;rfl
 | .nils,v,h=>by obtain⟨rfl,_⟩:=h;rfl
 | .nilf,v,h=>by obtain⟨rfl,_⟩:=h;rfl
 | .nili,v,h=>by obtain⟨rfl,_⟩:=h;rfl
 | .arr ..,v,h=>by obtain⟨rfl,_⟩:=h;rfl
 | .tup ..,v,h=>by obtain⟨rfl,_⟩:=h;rfl
 | .undef,v,h=>by obtain⟨rfl,_⟩:=h;rfl
 | .mp ..,v,h=>by obtain⟨_,_,rfl⟩:=h;rfl
 | .mpv ..,v,h=>by obtain⟨rfl,_⟩:=h;rfl
section
variable {N:Nat} {w0 w w':World} {ex0:El} {P0 P:bT} {adr:fV} {E:VE} {M:VM} {m m0:FM} {n:Nat} {a:Act} {u:Value} {fz:Fz}
def xi (w:World) (P:bT) (adr:fV) (fz:Fz):Prop:= ∀c b k,fz c=some (b,k)→∀g,adr c=some g→(b.row=true∨∀ks vs,b.l≠ [.mpv ks vs])→
 ∃(cur:Array Value) (parts:List (List Value)),w.heap[g]? =some (.cells cur b.ty (0,0))∧parts.length=b.l.length∧(∀p∈parts,p.length=b.es)∧
  (∀(j:Nat) x p,b.l[j]? =some x→parts[j]? =some p→cS w P (if b.row then noAdr else adr) x p)∧parts.flatten <+:cur.toList∧(∀o,o < k * b.es→P g o)∧k≤b.l.length
theorem CE: ∀(bs:List (Nat×Nat)) {m:FM} {P:bT},fj m0 m→aX w P adr m→(∀c k,(c,k)∈bs→∃b,m0 c=some b∧k≤b.l.length)→
  ∃P',aX w P' adr (dk m bs)∧bG w w P P' adr adr∧(∀x o,P' x o→P x o∨∃c,adr c=some x)∧fj m0 (dk m bs)∧∀c k,(c,k)∈bs→∀b,m0 c=some b→∀g,adr c=some g→∀o,o < k * b.es→P' g o
 | [],m,P,hs,hI,_=>⟨P,hI,bG.refl _ _ _,fun _ _ h=> .inl h,hs,fun _ _ h=>nomatch h⟩
 | (c,k) :: bs,m,P,hs,hI,hb=>by
  obtain⟨b,h1,h2⟩:=hb c k sm
  obtain⟨b',h3,e1,e2,e3,e4⟩:=hs c b h1
  obtain⟨P1,a1,a2,a3,a4⟩:=hI.bump1 h3 (n:=k) (by rw [e1];exact h2)
  have e5:dk m ((c,k) :: bs)=dk (aO m c { b' with pe:=b₀ b'.pe k }) bs:=by
   show dk (match m c with | some b=>aO m c { b with pe:=b₀ b.pe k } | none=>m) bs=_
   rw [h3]
  have hs1:fj m0 (aO m c { b' with pe:=b₀ b'.pe k }):=by
   have:=hs.bump c k
   rw [h3] at this
   exact this
  obtain⟨P2,b1,b2,b3,b4,b5⟩:=CE bs hs1 a1 fun c k h=>hb c k (by simp [h])
  refine⟨P2,?_,a2.trans b2,fun x o hp=>?_,?_,fun c' k' hm b2' hb2 g hg o ho=>?_⟩
  ·rw [e5];exact b1
  ·rcases b3 x o hp with h | h
   ·exact a3 x o h
   ·exact .inr h
  ·rw [e5];exact b4
  ·rcases b₄.1 hm with h | h
   ·injection h with x1 x2
    subst x1;subst x2
    rw [h1] at hb2
    injection hb2 with hb2
    subst hb2
    exact b2.prot _ _ (a4 g hg o (by rw [e3];exact ho))
   ·exact b5 c' k' h b2' hb2 g hg o ho
theorem xj: ∀{bs:List (Nat×Nat)},Bd M bs→∀c k,(c,k)∈bs→∃b,VM.get M c=some b∧k≤b.l.length
 | (x,y) :: bs,h,c,k,hm=>by
  rcases b₄.1 hm with e | hm
  ·injection e with e1 e2
   subst e1;subst e2
   have h1:=h.1
   cases hb:VM.get M c with
   | none=>rw [hb] at h1;exact h1.elim
   | some b=>rw [hb] at h1;exact⟨b,rfl,h1⟩
  ·exact xj h.2 c k hm
theorem CF: ∀{bs:List (Nat×Nat)} {c:Nat} {b:MB} {k:Nat},kI M bs c=some (b,k)→(c,k)∈bs∧VM.get M c=some b
 | (x,y) :: bs,c,b,k,h=>by
  have h':(bif a₂ x c then(match VM.get M c with | some b=>some (b,y) | none=>none) else kI M bs c)=some (b,k):=h
  by_cases e:x=c
  ·subst e
   simp only [Nat.beq_refl,cond_true] at h'
   cases hb:VM.get M x with
   | none=>rw [hb] at h';cases h'
   | some b'=>rw [hb] at h';injection h' with h';injection h' with h1 h2;subst h1;subst h2;exact⟨sm,rfl⟩
  ·simp only [gE e,cond_false] at h'
   obtain⟨h1,h2⟩:=CF h'
   exact⟨by simp [h1],h2⟩
theorem aX.frozen (hI:aX w P adr (VM.get M)) {bs:List (Nat×Nat)} (h:Bd M bs) :
  ∃P',aX w P' adr (VM.get (VM.bump M bs))∧bG w w P P' adr adr∧(∀x o,P' x o→P x o∨∃c,adr c=some x)∧xi w P' adr (kI M bs):=by
 obtain⟨P',h1,h2,h3,h4,h5⟩:=CE bs (fj.refl _) hI (xj h)
 refine⟨P',by rw [VM.get_bump];exact h1,h2,h3,fun c b k hc g hg hn=>?_⟩
 obtain⟨q1,q2⟩:=CF hc
 obtain⟨b0,q3,q4⟩:=xj h c k q1
 rw [q2] at q3
 injection q3 with q3
 subst q3
 obtain⟨b',r1,r2,r3,r4,r5⟩:=h4 c b q2
 rcases h1.blk c b' r1 with s | ⟨g',s1,s2⟩
 ·rw [hg] at s;cases s.2.2.1
 ·rw [hg] at s1
  injection s1 with s1
  subst s1
  obtain⟨cur,parts,c1,c2,c3,c4,c5⟩:=hn.elim (fun hn=>s2.ofR (by rw [r3];exact hn)) (fun hn=>s2.ofL (by rw [r2];exact hn))
  exact⟨cur,parts,by rw [← r5];exact c1,by rw [← r2];exact c2,by rw [← r4];exact c3,by rw [← r2,← r3];exact c4,c5,h5 c k q1 b q2 g hg,q4⟩
def fL (σ:Nat→Option Nat) (adr:fV):fV:=fun c=>(σ c).bind adr
theorem JD (hf:xi w P adr fz) {v:MV} {k:Nat} {l:List MV} {cs:List Value} (h:NC fz v k l) (hr:cS w P adr v cs) {a2:fV}:cS w P a2 (.sl k l) cs:=by
 have nil:cS w P a2 (.sl 0 []) [.slice none 0 0] := .sl none 0 0 [] rfl rfl (fun p hp=>nomatch hp) (fun _=>⟨rfl,rfl⟩) (b₂ _) (fun h=>absurd rfl h) (fun j m p h=>by simp at h);unfold NC at h;cases hr with
 | nils=>obtain ⟨rfl,rfl⟩:=h;exact nil
 | ms0=>
  rename_i c es;simp only at h;split at h
  ·obtain⟨_,_,rfl,_,rfl⟩:=h;simpa [cutL] using nil
  ·exact h.elim
 | ms g o cap hg ho hcap hcap2 hsz=>
  rename_i c es off n;simp only at h;split at h
  ·rename_i b kk hb;obtain⟨hrow,hes,rfl,hk,rfl⟩:=h;obtain⟨cur,parts,c1,c2,c3,c4,c5,c6,c7⟩:=hf c b kk hb g hg (.inl hrow);rw [hrow] at c4;have hcut:(cutL b.l off (off + n)).length=n:=by unfold cutL;rw [a₅,a₆];omega
   have hpes: ∀p∈parts,p.length=es:=fun p hp=>by rw [c3 p hp,hes]
   have hall: ∀p∈(parts.drop off).take n,p.length=es:=fun p hp=>hpes p (b₇ (b₈ hp))
   have hlen2:((parts.drop off).take n).length=n:=by rw [a₅,a₆];omega
   refine .sl (some ⟨g,o,none⟩) cap es ((parts.drop off).take n) hcut hlen2 hall (fun h=>nomatch h) hcap (fun hn0=>⟨g,o,rfl,fun j u hj=>?_⟩) fun j x p hx hp=>?_
   ·have ho:=ho (.inl hn0);subst ho;have hjl:=(a₃.1 hj).1;rw [aR hall,hlen2] at hjl;refine⟨?_,c6 _ ?_⟩
    ·rw [cell_of_row w g _ cur b.ty (0,0) c1];have:=dW c5 (dP hpes off n hj om);simpa using this
    ·rw [hes];have:=a₄ es hk;rw [c₃] at this;omega
   ·obtain⟨hx,hj⟩:=ji hx;rw [c₁] at hp;split at hp
    ·rw [c₂] at hp;exact c4 _ x p hx hp
    ·cases hp
  ·exact h.elim
 | _=>exact h.elim
theorem JE (hf:xi w P adr fz) {v x:MV} {fo:Nat} {path:List Nat} {cs:List Value} (h:NF fz v x fo path) (hr:cS w P adr v cs) {a2:fV}:cS w P a2 (.ep x fo path) cs:=by
 unfold NF at h;cases hr with
 | ptr g hg=>
  rename_i c es k fo' path';simp only at h;split at h
  ·rename_i b kk hb;obtain⟨hes,hk,rfl,rfl,hx,hfr⟩:=h;obtain⟨cur,parts,c1,c2,c3,c4,c5,c6,c7⟩:=hf c b kk hb g hg (.inr fun ks vs e=>by
    rw [e] at hx;cases k with
    | zero=>injection hx with hx;subst hx;cases hfr
    | succ k=>simp [bW] at hx)
   have hpes: ∀p∈parts,p.length=es:=fun p hp=>by rw [c3 p hp,hes]
   have hk2:k < parts.length:=om;have hpk:parts[k]? =some parts[k] :=by simp [hk2]
   have hrep:=c4 k x parts[k] ((bS b.l k).symm.trans hx) hpk;refine .ep g (k * es) parts[k] (fun j u hj=>?_) (hrep.free hfr);have hjl:=(a₃.1 hj).1;rw [hpes _ (d₀ hk2)] at hjl;refine⟨?_,c6 _ ?_⟩
   ·rw [cell_of_row w g _ cur b.ty (0,0) c1];have:=dW c5 (dP hpes k 1 (x:=u) (by
     have:(parts.drop k).take 1= [parts[k]] :=by rw [c₆ hk2];rfl
     rw [this];simpa using hj) om)
    simpa using this
   ·rw [hes];have:=a₄ es (show k + 1≤kk by omega);rw [c₃] at this;omega
  ·exact h.elim
 | _=>exact h.elim
mutual
theorem tg {σ:Nat→Option Nat} (hf:xi w P adr fz): ∀{p v:MV} {cs:List Value},eu σ fz p v→cS w P adr v cs→cS w P (fL σ adr) p cs
 | .ms c es off n,v,cs,h,hr=>by
  rcases h with ⟨rfl,rfl,rfl⟩ | ⟨c0,h1,rfl⟩
  ·cases hr;exact .ms0
  ·cases hr with
   | ms0=>exact .ms0
   | ms g o cap a1 a2 a3 a4 a5=>exact .ms g o cap (by simp [fL,h1,a1]) a2 a3 a4 a5
 | .ptr c es k fo path,v,cs,h,hr=>by
  obtain⟨c0,h1,rfl⟩:=h
  cases hr with
  | ptr g a1=>exact .ptr g (by simp [fL,h1,a1])
 | .st l,v,cs,h,hr=>by
  rcases h with ⟨rfl,h2⟩ | ⟨l0,rfl,h2⟩
  ·exact(hr.free h2).ofNone
  ·cases hr with
   | st parts hp hr=>
    obtain⟨h3,h4,_⟩:=jd hf h2 hp hr
    exact .st parts h3 h4
 | .fn f l,v,cs,h,hr=>by
  rcases h with ⟨rfl,h2⟩ | ⟨l0,rfl,h2⟩
  ·exact(hr.free h2).ofNone
  ·cases hr with
   | fn parts hp hr=>
    obtain⟨h3,h4,h5⟩:=jd hf h2 hp hr
    rw [← oR h5]
    exact .fn parts h3 h4
 | .ifc t x,v,cs,h,hr=>by
  rcases h with ⟨rfl,h2⟩ | ⟨y,rfl,h2⟩
  ·exact(hr.free h2).ofNone
  ·cases hr with
   | ifc cs hr=>
    have h3:=tg hf h2 hr
    have e:valM y cs=valM x cs:=by unfold valM;rw [tf h2]
    rw [e]
    exact .ifc cs h3
 | .sl n l,v,cs,h,hr=>by
  rcases h with rfl | h
  ·exact(hr.free rfl).ofNone
  ·exact JD hf h hr
 | .ep x fo path,v,cs,h,hr=>by
  rcases h with rfl | h
  ·exact(hr.free rfl).ofNone
  ·exact JE hf h hr
 | .int ..,v,cs,h,hr=>by obtain⟨rfl,h2⟩:=h;exact(hr.free h2).ofNone
 | .bool ..,v,cs,h,hr=>by obtain⟨rfl,h2⟩:=h;exact(hr.free h2).ofNone
 | .str ..,v,cs,h,hr=>by obtain⟨rfl,h2⟩:=h;exact(hr.free h2).ofNone
 | .nilp,v,cs,h,hr=>by obtain⟨rfl,h2⟩:=h;exact(hr.free h2).ofNone
 | .gp ..,v,cs,h,hr=>by obtain⟨rfl,h2⟩:=h;exact(hr.free h2).ofNone
 | .nils,v,cs,h,hr=>by obtain⟨rfl,h2⟩:=h;exact(hr.free h2).ofNone
 | .nilf,v,cs,h,hr=>by obtain⟨rfl,h2⟩:=h;exact(hr.free h2).ofNone
 | .nili,v,cs,h,hr=>by obtain⟨rfl,h2⟩:=h;exact(hr.free h2).ofNone
 | .arr ..,v,cs,h,hr=>by obtain⟨rfl,h2⟩:=h;exact(hr.free h2).ofNone
 | .tup ..,v,cs,h,hr=>by obtain⟨rfl,h2⟩:=h;exact(hr.free h2).ofNone
 | .undef,v,cs,h,hr=>by obtain⟨rfl,h2⟩:=h;exact(hr.free h2).ofNone
 | .mpv ..,v,cs,h,hr=>by obtain⟨rfl,h2⟩:=h;exact(hr.free h2).ofNone
 | .mp c,v,cs,h,hr=>by
  obtain⟨c0,h1,rfl⟩:=h
  cases hr with
  | mp g a1=>exact .mp g (by simp [fL,h1,a1])
theorem jd {σ:Nat→Option Nat} (hf:xi w P adr fz): ∀{l l0:List MV} {parts:List (List Value)},eu.relVs σ fz l l0→parts.length=l0.length→(∀(j:Nat) m p,l0[j]? =some m→parts[j]? =some p→cS w P adr m p)→
  parts.length=l.length∧(∀(j:Nat) m p,l[j]? =some m→parts[j]? =some p→cS w P (fL σ adr) m p)∧l.map MV.isAgg=l0.map MV.isAgg
 | [],[],parts,_,hp,_=>⟨hp,fun j m p h=>by simp at h,rfl⟩
 | m :: l,v :: l0,[],h,hp,_=>by simp at hp
 | m :: l,v :: l0,q :: parts,h,hp,hr=>by
  obtain⟨h1,h2⟩:=h
  obtain⟨h3,h4,h5⟩:=jd hf h2 (parts:=parts) (by simpa using hp) fun j m p a b=>hr (j + 1) m p a b
  refine⟨by simp [h3],fun j x p hx hq=>?_,by simp [h5,tf h1]⟩
  cases j with
  | zero=>simp at hx hq;subst hx;subst hq;exact tg hf h1 (hr 0 v q rfl rfl)
  | succ j=>exact h4 j x p (by simpa using hx) (by simpa using hq)
 | [],_ :: _,_,h,_,_=>h.elim
 | _ :: _,[],_,h,_,_=>h.elim
end
theorem oS {σ:Nat→Option Nat} {p v:MV} (h:eu σ fz p v):v.isVal=true∧p.isVal=true:=by
 cases p with
 | ms=>rcases h with ⟨rfl,_⟩ | ⟨_,_,rfl⟩ <;> exact⟨rfl,rfl⟩
 | ptr=>obtain ⟨_,_,rfl⟩:=h;exact⟨rfl,rfl⟩
 | mp=>obtain ⟨_,_,rfl⟩:=h;exact⟨rfl,rfl⟩
 | st=>rcases h with ⟨rfl,_⟩ | ⟨_,rfl,_⟩ <;> exact⟨rfl,rfl⟩
 | fn=>rcases h with ⟨rfl,_⟩ | ⟨_,rfl,_⟩ <;> exact⟨rfl,rfl⟩
 | ifc=>rcases h with ⟨rfl,_⟩ | ⟨_,rfl,_⟩ <;> exact⟨rfl,rfl⟩
 | sl=>
  rcases h with rfl | h
  ·exact⟨rfl,rfl⟩
  ·unfold NC at h;split at h <;> first | exact⟨rfl,rfl⟩ | exact h.elim
 | ep=>
  rcases h with rfl | h
  ·exact⟨rfl,rfl⟩
  ·unfold NF at h;split at h <;> first | exact⟨rfl,rfl⟩ | exact h.elim
 | _=>first | (obtain⟨rfl,h2⟩:=h;exact⟨rfl,rfl⟩) | (obtain⟨_,h2⟩:=h;cases h2)
theorem qB {σ:Nat→Option Nat} (hf:xi w P adr fz) {p v:MV} {u:Value} (h:eu σ fz p v) (hr:aK w P adr v u):aK w P (fL σ adr) p u:=by
 cases hr with
 | val cs hr=>
  have e:valM v cs=valM p cs:=by unfold valM;rw [tf h]
  rw [e];exact .val cs (tg hf h hr)
 | undef=>cases (oS h).1
 | tup vs hl hr=>cases (oS h).1
theorem iu {σ:Nat→Option Nat} (hf:xi w P adr fz): ∀{l l0:List MV} {vs:List Value},eu.relVs σ fz l l0→dq w P adr l0 vs→dq w P (fL σ adr) l vs∧∀p∈l,p.isVal=true
 | [],[],_,_, .nil=>⟨.nil,fun _ h=>nomatch h⟩
 | m :: l,v :: l0,_,h, .cons h1 h2=>by
  obtain⟨h3,h4⟩:=iu hf h.2 h2
  refine⟨.cons (qB hf h.1 h1) h3,fun p hp=>?_⟩
  rcases b₄.1 hp with rfl | hp
  ·exact(oS h.1).2
  ·exact h4 p hp
theorem fM: ∀{σ:List (Nat×Nat)} {c c0:Nat},mV σ c=some c0→(c,c0)∈σ
 | (x,y) :: σ,c,c0,h=>by
  have h':(bif a₂ x c then some y else mV σ c)=some c0:=h
  by_cases e:x=c
  ·subst e;simp at h';subst h';exact a₈
  ·simp only [gE e,cond_false] at h'
   exact c₉ _ (fM h')
theorem sy: ∀{σ:List (Nat×Nat)},En σ=true→∀{c d c0:Nat},mV σ c=some c0→mV σ d=some c0→c=d
 | [],_,c,d,c0,h,_=>by cases h
 | (x,y) :: σ,hi,c,d,c0,h1,h2=>by
  have hi:(σ.all (fun z=> !a₂ z.2 y) && En σ)=true:=hi
  rw [a₀,b₉] at hi
  have h1':(bif a₂ x c then some y else mV σ c)=some c0:=h1
  have h2':(bif a₂ x d then some y else mV σ d)=some c0:=h2
  have no: ∀{e:Nat},mV σ e=some y→False:=by
   intro e he
   have:=hi.1 _ (fM he)
   simp at this
  by_cases e1:x=c
  ·subst e1
   simp at h1'
   subst h1'
   by_cases e2:x=d
   ·exact e2
   ·simp only [gE e2,cond_false] at h2'
    exact(no h2').elim
  ·simp only [gE e1,cond_false] at h1'
   by_cases e2:x=d
   ·subst e2
    simp at h2'
    subst h2'
    exact(no h1').elim
   ·simp only [gE e2,cond_false] at h2'
    exact sy hi.2 h1' h2'
structure Gm (n0 n':Nat) (σ:List (Nat×Nat)):Prop where
 le:n0≤n'
 lt: ∀{c d},da n0 σ c=some d→c < n'
 inj: ∀{c d e},da n0 σ c=some e→da n0 σ d=some e→c=d
 same: ∀{c},c < n0→da n0 σ c=some c
theorem j9 {n0 n':Nat} {σ:List (Nat×Nat)} (h:r9 n0 n' σ=true):Gm n0 n' σ:=by
 unfold r9 at h;simp only [a₀,b₉,Nat.ble_eq,c₀] at h;obtain⟨⟨h1,h2⟩,h3⟩:=h;have lo: ∀{c d},da n0 σ c=some d→(c < n0∧d=c)∨(n0≤c∧n0≤d∧c < n'∧mV σ c=some d):=by
  intro c d h;unfold da at h;by_cases hc:c < n0
  ·rw [show b₁ c n0=true by simpa [c₀] using hc] at h;injection h with h
   exact .inl ⟨hc,h.symm⟩
  ·have hb:b₁ c n0=false:=by
    cases hb:b₁ c n0 with
    | false=>rfl
    | true=>exact absurd (by simpa [c₀] using hb) hc
   rw [hb] at h;obtain⟨⟨q1,q2⟩,q3⟩:=h3 _ (fM h);exact .inr ⟨q2,q3,q1,h⟩
 refine⟨h1,fun h=>?_,fun {c d e} ha hb=>?_,fun {c} hc=>by unfold da;rw [show b₁ c n0=true by simpa [c₀] using hc];rfl⟩
 ·rcases lo h with ⟨q1,_⟩ | ⟨_,_,q,_⟩ <;> omega
 ·rcases lo ha with ⟨q1,q2⟩ | ⟨q1,q2,q3,q4⟩ <;> rcases lo hb with ⟨r1,r2⟩ | ⟨r1,r2,r3,r4⟩
  ·omega
  ·omega
  ·omega
  ·exact sy h2 q4 r4
theorem Be {σ:Nat→Option Nat}: ∀{E' E:VE},mE σ fz E' E→∀{t:Nat} {v:MV},VE.get E' t=some v→∃u,VE.get E t=some u∧eu σ fz v u
 | (s,x) :: E',E,h,t,v,hv=>by
  rw [VE.get_cons] at hv
  split at hv
  ·rename_i e;subst e;injection hv with hv;subst hv;exact h.1
  ·exact Be h.2 hv
theorem xk {σ:Nat→Option Nat}: ∀{M' M:VM},mM σ fz M' M→∀{c:Nat} {b':MB},VM.get M' c=some b'→mB σ fz M c b'
 | (s,x) :: M',M,h,c,b',hv=>by
  rw [VM.get_cons] at hv
  split at hv
  ·rename_i e;subst e;injection hv with hv;subst hv;exact h.1
  ·exact xk h.2 hv
theorem VM.get_mem: ∀{M:VM} {c:Nat} {b:MB},VM.get M c=some b→(c,b)∈M
 | (s,x) :: M,c,b,h=>by
  rw [VM.get_cons] at h
  split at h
  ·rename_i e;subst e;injection h with h;subst h;exact a₈
  ·exact c₉ _ (VM.get_mem h)
theorem rJ: ∀{l:List MV} {j:Nat} {x:MV},MV.idFrees l=true→l[j]? =some x→x.idFree=true
 | a :: l,0,x,h,hx=>by
  unfold MV.idFrees at h
  rw [a₀] at h
  injection hx with hx
  rw [← hx]
  exact h.1
 | a :: l,j + 1,x,h,hx=>by
  unfold MV.idFrees at h
  rw [a₀] at h
  exact rJ h.2 (by simpa using hx)
theorem aX.matched {n0 n':Nat} {σ:List (Nat×Nat)} {M':VM} (hσ:Gm n0 n' σ) (hf:xi w P adr fz) (hI:aX w P adr (VM.get M)) (h5:mM (da n0 σ) fz M' M):aX w P (fL (da n0 σ) adr) (VM.get M'):=by
 refine⟨fun c b' hc=>?_,fun c d b b' g hc hd hg hg'=>?_,hI.prot⟩
 ·rcases xk h5 hc with ⟨a1,a2,a3,a4⟩ | ⟨c0,b,a1,a2,a3,a4,a5,a6,a7⟩
  ·exact .inl ⟨a1,a2,by simp [fL,a4],a3⟩
  ·rcases hI.blk c0 b a2 with b1 | ⟨g,b1,b2⟩
   ·have hnil:b'.l= [] :=by
     rcases a7 with ⟨a7,a8⟩ | a7
     ·rw [a7,b1.2.1]
     ·rw [b1.2.1] at a7;cases hl:b'.l with
      | nil=>rfl
      | cons x l=>rw [hl] at a7;exact a7.elim
    have hrow:b'.row=true:=by
     rcases a5 with a5 | ⟨_,_,_,a5⟩ | ⟨a5,_⟩
     ·rw [a5,b1.1]
     ·exact absurd b1.2.1 a5
     ·rw [b1.1] at a5;cases a5
    refine .inl ⟨hrow,hnil,by simp [fL,a1,b1.2.2.1],?_⟩;rcases a6 with a6 | ⟨_,a6⟩
    ·rw [a6,b1.2.2.2]
    ·rw [hnil] at a6;exact Nat.le_zero.1 a6
   ·refine .inr ⟨g,by simp [fL,a1,b1],?_⟩;rcases b2.has' with ⟨cur,parts,c1,c2,c3,c4,c5⟩ | ⟨m1,m2,ks,vs,o,m3,m4,m5⟩;rotate_left
    ·have hl':b'.l=b.l:=by
      rcases a7 with ⟨a7,_⟩ | a7
      ·exact a7
      ·rw [m3] at a7;cases hl:b'.l with
       | nil=>rw [hl] at a7;exact a7.elim
       | cons x l=>
        rw [hl] at a7;have hx:=(oS (a7:eu _ _ _ _∧_).1).1;cases hx
     have hrow:b'.row=false:=by
      rcases a5 with a5 | ⟨e1,_,_⟩ | ⟨_,_,e3⟩
      ·rw [a5,m1]
      ·rw [m1] at e1;cases e1
      ·rw [hl',m3] at e3;cases e3
     have hpe:b.pe≤b'.pe∧b'.pe≤b'.l.length:=by
      have:=b2.le;rcases a6 with a6 | a6
      ·rw [a6,hl'];exact⟨b₂ _,this⟩
      ·exact a6
     exact⟨.inr ⟨hrow,by rw [a4];exact m2,ks,vs,o,by rw [hl'];exact m3,m4,m5⟩,fun o ho=>a₇ (b2.pe o ho) (by rw [a4];exact a₄ _ hpe.1),hpe.2⟩
    have hnm:CD b.l=true→b.row=true:=fun h=>by
     obtain⟨ks,vs,e⟩:=Em h;rw [e] at c2 c4
     match parts,c2 with
     | [p],_=>have:=c4 0 _ p rfl rfl;cases this
    have hl:parts.length=b'.l.length∧∀(j:Nat) x p,b'.l[j]? =some x→parts[j]? =some p→cS w P (if b'.row then noAdr else fL (da n0 σ) adr) x p:=by
     rcases a5 with a5 | ⟨e1,e2,e3,_⟩ | ⟨e1,e2,e3⟩;rotate_left
     ·rw [e1] at c4;rw [e3,e2];exact⟨c2,fun j x p hx hp=>(c4 j x p hx hp).ofNone⟩
     ·rcases a7 with ⟨_,a8⟩ | a7
      ·rw [e1] at a8;rw [hnm (by simpa using a8)] at e1;cases e1
      rw [e1] at c4;obtain⟨d1,d2,_⟩:=jd hf a7 c2 c4;rw [e2];exact⟨d1,fun j x p hx hp=>(d2 j x p hx hp).free (rJ e3 hx)⟩
     rcases a7 with ⟨a7,a8⟩ | a7
     ·have a8:b.row=true:=by
       cases hr:b.row with
       | true=>rfl
       | false=>rw [hr] at a8;exact hr▸hnm a8
      rw [a8] at c4;rw [a5,a7,a8];exact⟨c2,c4⟩
     ·rw [← a5] at c4;cases hrow:b'.row with
      | true=>
       rw [hrow] at c4;have hf0:xi w P noAdr fz:=fun c b k _ g hg=>nomatch hg
       obtain⟨d1,d2,_⟩:=jd hf0 a7 c2 c4;have e:fL (da n0 σ) noAdr=noAdr:=by
        funext c;unfold fL;cases da n0 σ c <;> rfl
       rw [e] at d2;exact⟨d1,d2⟩
      | false=>
       rw [hrow] at c4;obtain⟨d1,d2,_⟩:=jd hf a7 c2 c4;exact⟨d1,d2⟩
    have hpe:b.pe≤b'.pe∧b'.pe≤b'.l.length:=by
     have:=b2.le;rcases a6 with a6 | a6
     ·rw [a6,← hl.1,c2];exact⟨b₂ _,this⟩
     ·exact a6
    exact⟨.inl ⟨cur,parts,by rw [a3];exact c1,hl.1,by rw [a4];exact c3,hl.2,c5⟩,fun o ho=>a₇ (b2.pe o ho) (by rw [a4];exact a₄ _ hpe.1),hpe.2⟩
 ·unfold fL at hg hg';cases hc0:da n0 σ c with
  | none=>rw [hc0] at hg;cases hg
  | some c0=>
   cases hd0:da n0 σ d with
   | none=>rw [hd0] at hg';cases hg'
   | some d0=>
    rw [hc0] at hg;rw [hd0] at hg';have k1: ∃b,VM.get M c0=some b:=by
     rcases xk h5 hc with ⟨_,_,_,a4⟩ | ⟨c1,b,a1,a2,_⟩
     ·rw [hc0] at a4;cases a4
     ·rw [hc0] at a1;injection a1 with a1;subst a1;exact⟨b,a2⟩
    have k2: ∃b,VM.get M d0=some b:=by
     rcases xk h5 hd with ⟨_,_,_,a4⟩ | ⟨c1,b,a1,a2,_⟩
     ·rw [hd0] at a4;cases a4
     ·rw [hd0] at a1;injection a1 with a1;subst a1;exact⟨b,a2⟩
    obtain⟨b1,k1⟩:=k1;obtain⟨b2,k2⟩:=k2;have:=hI.inj c0 d0 b1 b2 g k1 k2 hg hg';subst this;exact hσ.inj hc0 hd0
theorem qC {M':VM} {n' c:Nat} (h3:M'.all (fun x=>b₁ x.1 n')=true) (hc:n'≤c):VM.get M' c=none:=by
 rw [b₉] at h3;cases hx:VM.get M' c with
 | none=>rfl
 | some b=>
  have:=h3 _ (VM.get_mem hx);have:c < n':=by simpa [c₀] using this
  omega
theorem ka {n0 n' c:Nat} {σ:List (Nat×Nat)} (hσ:Gm n0 n' σ) (hc:n'≤c):fL (da n0 σ) adr c=none:=by
 unfold fL;cases hx:da n0 σ c with
 | none=>rfl
 | some d=>have:=hσ.lt hx;omega
theorem iP.frozen {P':bT} (h:iP w0 ex0 P0 w P adr) (k:bG w w P P' adr adr):iP w0 ex0 P0 w P' adr:=⟨h.in_,h.old,h.keep.trans k⟩
theorem iP.matched {n':Nat} {σ:List (Nat×Nat)} (h:iP w0 ex0 P0 w P adr) (hσ:Gm ex0.n0 n' σ):iP w0 ex0 P0 w P (fL (da ex0.n0 σ) adr):=by
 refine⟨fun c g hc=>?_,fun c hc=>?_,⟨h.keep.prot,h.keep.cell,fun c g hc=>?_,h.keep.size⟩⟩
 ·unfold fL at hc;cases hc0:da ex0.n0 σ c with
  | none=>rw [hc0] at hc;cases hc
  | some c0=>rw [hc0] at hc;exact h.in_ c0 g hc
 ·simp only [fL,hσ.same hc,d₁];exact h.old c hc
 ·simp only [fL,hσ.same (ex0.lt c g hc),d₁];exact h.keep.num c g hc
theorem oQ.matched {E':VE} {M':VM} {n':Nat} (hs:oQ N w0 ex0 P0 (VE.get E) (VM.get M) n a w) (h:gI ex0.n0 E' M' n' E M):oQ N w0 ex0 P0 (VE.get E') (VM.get M') n' a w:=by
 obtain⟨σ,bs,h1,h2,h3,h4,h5⟩:=h;obtain⟨P,adr,hI,hE,ha1,ha2,ha3⟩:=hs.ex;have hσ:=j9 h1;obtain⟨P',i1,i2,i3,i4⟩:=hI.frozen h2;refine⟨⟨P',fL (da ex0.n0 σ) adr,i1.matched hσ i4 h5,fun t v ht=>?_,fun c hc=>ka hσ hc,(ha2.frozen i2).matched hσ,fun b o ho=>?_⟩,fun c hc=>qC h3 hc,hσ.le,hs.since,hs.defers,hs.size⟩
 ·obtain⟨v0,e1,e2⟩:=Be h4 ht;obtain⟨u,e3,e4⟩:=hE t v0 e1;exact⟨u,e3,qB i4 e2 (e4.keep i2)⟩
 ·rcases i3 b o ho with h | ⟨c,h⟩
  ·exact ha3 b o h
  ·rcases ha2.in_ c b h with h | h
   ·exact .inr (.inl h)
   ·exact .inr (.inr h)
end
end
section
def vL (Pg:Program) (f:FuncId) (vals:Array Value) (w:World) (Q:Ending→World→Prop):Prop:=
 ∃v w',(callFunc f vals).run Pg w= .ok (.value v) w'∧Q (.returned v) w'
theorem vL.mono {Pg:Program} {f:FuncId} {vals:Array Value} {w:World} {Q R:Ending→World→Prop} (h:vL Pg f vals w Q) (hq: ∀e w,Q e w→R e w):vL Pg f vals w R:=by
 obtain⟨v,w',h1,h2⟩:=h;exact⟨v,w',h1,hq _ _ h2⟩
def LZ (C:Program→FuncId→Array Value→World→(Ending→World→Prop)→Prop) (Pg:Program) (G:GS) (f:FuncId) (args:List MV) (M0:VM) (n0:Nat) (res:MV) (M1:VM) (n1:Nat):Prop:=
 ∀(w:World) (P:bT) (adr:fV) (vals:List Value),G.ok w→aX w P adr (VM.get M0)→(∀c,n0≤c→adr c=none)→(∀c g,adr c=some g→¬ G.L g)→dq w P adr args vals→
  C Pg f vals.toArray w fun e w'=> ∃v,e= .returned v∧∃P' adr',aX w' P' adr' (VM.get M1)∧aK w' P' adr' res v∧bG w w' P P' adr adr'∧(∀c,c < n0→adr' c=adr c)∧(∀c,n1≤c→adr' c=none)∧
   (∀c g,adr' c=some g→w.heap.size≤g∨∃c0,adr c0=some g)∧(∀b o,P' b o→P b o∨w.heap.size≤b∨∃c0,adr c0=some b)∧cG (fun g=> ∃c0,adr c0=some g) w w'
def aQ (Pg:Program) (G:GS) (f:FuncId) (args:List MV) (M0:VM) (n0:Nat) (res:MV) (M1:VM) (n1:Nat):Prop:=LZ (fun P f a w Q=>Calls P f a w Q) Pg G f args M0 n0 res M1 n1
def L0 (Pg:Program) (G:GS) (f:FuncId) (args:List MV) (M0:VM) (n0:Nat) (res:MV) (M1:VM) (n1:Nat):Prop:=LZ vL Pg G f args M0 n0 res M1 n1
def CG (C:Program→FuncId→Array Value→World→(Ending→World→Prop)→Prop) (Pg:Program) (G:GS) (f:FuncId) (args:List MV) (M0:VM) (n0:Nat) (Φ:MV→VM→Nat→Prop):Prop:=
 ∀(w:World) (P:bT) (adr:fV) (vals:List Value),G.ok w→aX w P adr (VM.get M0)→(∀c,n0≤c→adr c=none)→(∀c g,adr c=some g→¬ G.L g)→dq w P adr args vals→
  C Pg f vals.toArray w fun e w'=> ∃v,e= .returned v∧∃(res:MV) (M1:VM) (n1:Nat),Φ res M1 n1∧∃P' adr',aX w' P' adr' (VM.get M1)∧aK w' P' adr' res v∧bG w w' P P' adr adr'∧(∀c,c < n0→adr' c=adr c)∧(∀c,n1≤c→adr' c=none)∧
   (∀c g,adr' c=some g→w.heap.size≤g∨∃c0,adr c0=some g)∧(∀b o,P' b o→P b o∨w.heap.size≤b∨∃c0,adr c0=some b)∧cG (fun g=> ∃c0,adr c0=some g) w w'
def ti (Pg:Program) (G:GS) (f:FuncId) (args:List MV) (M0:VM) (n0:Nat) (Φ:MV→VM→Nat→Prop):Prop:=CG (fun P f a w Q=>Calls P f a w Q) Pg G f args M0 n0 Φ
def yR (Pg:Program) (G:GS) (f:FuncId) (args:List MV) (M0:VM) (n0:Nat) (Φ:MV→VM→Nat→Prop):Prop:=CG vL Pg G f args M0 n0 Φ
theorem yS {C:Program→FuncId→Array Value→World→(Ending→World→Prop)→Prop} (hC: ∀{Pg:Program} {f:FuncId} {vals:Array Value} {w:World} {Q R:Ending→World→Prop},C Pg f vals w Q→(∀e w,Q e w→R e w)→C Pg f vals w R)
  {Pg:Program} {G:GS} {f:FuncId} {args:List MV} {M0:VM} {n0:Nat} {res:MV} {M1:VM} {n1:Nat} {Φ:MV→VM→Nat→Prop} (h:LZ C Pg G f args M0 n0 res M1 n1) (hΦ:Φ res M1 n1):CG C Pg G f args M0 n0 Φ:=by
 intro w P adr vals a1 a2 a3 a4 a5
 refine hC (h w P adr vals a1 a2 a3 a4 a5) ?_
 rintro e w' ⟨v,h1,h2⟩
 exact⟨v,h1,res,M1,n1,hΦ,h2⟩
mutual
def dr (ρ:Nat→Nat):MV→MV
 | .ptr c es k fo path=> .ptr (ρ c) es k fo path
 | .ms c es off n=> .ms (ρ c) es off n
 | .mp c=> .mp (ρ c)
 | .st l=>bif MV.idFrees l then .st l else .st (renVs ρ l)
 | .fn f l=>bif MV.idFrees l then .fn f l else .fn f (renVs ρ l)
 | .tup l=> .tup (renVs ρ l)
 | .ifc t v=>bif MV.idFree v then .ifc t v else .ifc t (dr ρ v)
 | m=>m
def renVs (ρ:Nat→Nat):List MV→List MV
 | [] => []
 | m :: l=>dr ρ m :: renVs ρ l
end
def jO (ρ:Nat→Nat):VM→VM
 | [] => []
 | (c,b) :: M=>(ρ c,{ b with l:=bif b.row then b.l else renVs ρ b.l }) :: jO ρ M
def iI:VM→List (Nat×Nat)→VM
 | M,[] =>M
 | M,(_,c) :: σ=>iI (VM.del M c) σ
def rK (n:Nat) (σ:List (Nat×Nat)) (c:Nat):Nat:=match mV σ c with | some d=>d | none=>n + c
def iv (M:VM):List (Nat×Nat)→Bool
 | [] =>true
 | (_,c) :: σ=>(VM.get M c).isSome && iv M σ
def Ph (n:Nat) (E':VE) (M':VM) (E:VE) (M:VM):Prop:=
 ∃bs:List (Nat×Nat),Bd M bs∧M'.all (fun x=>b₁ x.1 n)=true∧mE (da n []) (kI M bs) E' E∧mM (da n []) (kI M bs) M' (VM.bump M bs)
inductive Rt (n:Nat) (K:VE→VM→Prop):VE→VM→Prop
 | go {E:VE} {M:VM} (h:K E M):Rt n K E M
 | re {E:VE} {M:VM} (E':VE) (M':VM) (h:Ph n E' M' E M) (k:Rt n K E' M'):Rt n K E M
section
variable (Pg:Program) (T:bB) (N:Nat) (ents:List FuncId) (G:GS)
def dX (E:VE) (f:Operand) (args:List Operand):bj (FuncId×List MV):=
 rd (VE.get E) f fun fv=>mS (VE.get E) args fun vs=>match fv with
  | .fn f0 caps=> .ret (f0,vs ++ caps)
  | _=> .bad
def jj (S:Program→GS→FuncId→List MV→VM→Nat→(MV→VM→Nat→Prop)→Prop) (M:VM) (n:Nat) (f:FuncId) (vs:List MV) (K:MV→VM→Nat→Prop):Prop:=
 ∃(args:List MV) (M0:VM) (n0:Nat) (Φ:MV→VM→Nat→Prop),S Pg G f args M0 n0 Φ∧
  ∃(σ bs:List (Nat×Nat)),eB 0 args M0 n0 vs M σ bs∧iv M σ=true∧∀(res:MV) (M1:VM) (n1:Nat),Φ res M1 n1→M1.all (fun x=>b₁ x.1 n1)=true∧K (dr (rK n σ) res) (jO (rK n σ) M1 ++ iI (VM.bump M bs) σ) (n + n1)
def jA (n:Nat) (σ:List (Nat×Nat)) (c:Nat):Nat:=match mV σ c with | some d=>d | none=>n
def vq (l S:List Nat):Bool:=l.all fun c=>S.any fun x=>a₂ x c
def CH (σ:List (Nat×Nat)) (n0 n1:Nat) (M1:VM):Bool:=c₄ n1 (n0 + 1) && M1.all fun x=>(mV σ x.1).isSome || (a₂ x.1 n0 && b₁ n0 n1)
def lO (M:VM) (n:Nat) (f:FuncId) (vs:List MV) (fp:List Nat) (K:MV→VM→Prop):Prop:=
 ∃(args:List MV) (M0:VM) (n0:Nat) (res:MV) (M1:VM) (n1:Nat),aQ Pg G f args M0 n0 res M1 n1∧
  ∃(σ bs:List (Nat×Nat)),eB 0 args M0 n0 vs M σ bs∧iv M σ=true∧CH σ n0 n1 M1=true∧vq (σ.map (·.2)) fp=true∧vq (bs.map (·.1)) fp=true∧K (dr (jA n σ) res) (jO (jA n σ) M1 ++ iI (VM.bump M bs) σ)
def xl (E:VE) (o:Oper):Option (Nat×Bool):=match o.op with
 | .binOp op t x (.const (.slice none 0 0)) _=>match iV (VE.get E) x with
  | some (.sl n _)=>match bB.find T t with
   | some (.slice _ _)=>match op with
    | .eql=>some (n,false)
    | .neq=>some (n,true)
    | _=>none
   | _=>none
  | _=>none
 | _=>none
def qD (E:VE) (M:VM) (o:Oper):Option Nat:=match o.op with
 | .call c=>match c.callee with
  | .builtin .len=>match c.args.toList,c.argTypes.toList with
   | [x],[t] =>match iV (VE.get E) x with
    | some (.mp c)=>match VM.get M c with
     | some b=>match b.l with
      | [.mpv ks vs] =>match Pg.underlying t with
       | some (.map _ _)=>if vs.length=ks.length then some ks.length else none
       | _=>none
      | _=>none
     | none=>none
    | _=>none
   | _,_=>none
  | _=>none
 | _=>none
def Lr (E:VE) (M:VM) (o:Oper) (K:Nat→Prop):Prop:= ∃k:Nat,qD Pg E M o=some k∧K k
def Ls (o:Oper) (E:VE) (M:VM) (n:Nat) (K:MV→VM→Nat→Prop):Prop:=match o.op with
 | .call c=>match c.callee with
  | .value f=>(vp Pg T ents G o E M n fun r M'=>K r M' (n + 1))∨(dX E f c.args.toList).runP fun x=>match ents.contains x.1 with
   | true=>jj Pg G ti M n x.1 x.2 K
   | false=>jj Pg G yR M n x.1 x.2 K
  | .builtin _=>((iH Pg T (VE.get E) (VM.get M) n o).runP fun x=>K x.1 (x.2.app n M) (n + 1))∨Lr Pg E M o fun k=>K (.int .i64 k) M (n + 1)
  | _=>(iH Pg T (VE.get E) (VM.get M) n o).runP fun x=>K x.1 (x.2.app n M) (n + 1)
 | _=>(iH Pg T (VE.get E) (VM.get M) n o).runP fun x=>K x.1 (x.2.app n M) (n + 1)
def tj (o:Oper) (E:VE) (M:VM) (n:Nat) (K:MV→VM→Nat→Prop):Prop:=match xl T E o with
 | some (k,neg)=> ∀b:Bool,(b=true→k=0)→K (.bool (match neg with | true=> !b | false=>b)) M (n + 1)
 | none=>Ls Pg T ents G o E M n K
def xm (ops:Array Oper) (o:Oper) (K:VK) (E:VE) (M:VM) (n:Nat):Prop:=match o.guard with
 | none=>tj Pg T ents G o E M n fun r M n=>er N o.dst r E fun E=>K E M n
 | some (j,want)=>match (ops[j]?).bind (·.dst) with
  | none=>False
  | some s=>match VE.get E s with
   | some (.bool t)=>
    (t=want→tj Pg T ents G o ((s, .bool want) :: E) M n fun r M n=>er N o.dst r ((s, .bool want) :: E) fun E=>K E M n)∧
    (t= !want→er N o.dst .undef ((s, .bool (!want)) :: E) fun E=>K E M (n + 1))
   | some .undef=>er N o.dst .undef E fun E=>K E M (n + 1)
   | _=>False
def ak (ops:Array Oper):List Oper→VK→VK
 | [],K=>K
 | o :: rest,K=>fun E M n=>Rt n (fun E M=>xm Pg T N ents G ops o (ak ops rest K) E M n) E M
end
section
variable {Pg:Program} {T:bB} {N:Nat} {ents:List FuncId} {G:GS} {w0 w w':World} {ex0:El} {P0 P P':bT} {adr adr' adr2:fV} {E:VE} {M:VM} {m:FM} {n:Nat} {a:Act} {r:MV} {u:Value} {δ:Dl} {ev:Nat→Option MV}
mutual
theorem oT {ρ:Nat→Nat}: ∀m:MV,(dr ρ m).isAgg=m.isAgg
 | .st l=>by simp only [dr];cases MV.idFrees l <;> rfl
 | .fn f l=>by simp only [dr];cases MV.idFrees l <;> rfl
 | .ifc t v=>by simp only [dr];cases MV.idFree v <;> rfl
 | .ptr .. =>rfl
 | .ms .. =>rfl
 | .mp .. =>rfl
 | .mpv .. =>rfl
 | .tup .. =>rfl
 | .int .. =>rfl
 | .bool .. =>rfl
 | .str .. =>rfl
 | .nilp=>rfl
 | .gp .. =>rfl
 | .ep .. =>rfl
 | .sl .. =>rfl
 | .nils=>rfl
 | .nilf=>rfl
 | .nili=>rfl
 | .arr .. =>rfl
 | .undef=>rfl
theorem vN {ρ:Nat→Nat}: ∀l:List MV,(renVs ρ l).map MV.isAgg=l.map MV.isAgg
 | [] =>rfl
 | m :: l=>by simp only [renVs,c₅,oT m,vN l]
end
theorem gT {ρ:Nat→Nat}: ∀(l:List MV) (j:Nat),(renVs ρ l)[j]? =(l[j]?).map (dr ρ)
 | [],j=>by simp [renVs]
 | m :: l,0=>by simp [renVs]
 | m :: l,j + 1=>by simp [renVs,gT l j]
theorem fN {ρ:Nat→Nat}: ∀(l:List MV),(renVs ρ l).length=l.length
 | [] =>rfl
 | m :: l=>by simp [renVs,fN l]
theorem oU {ρ:Nat→Nat} {m:MV} {cs:List Value} (h:cS w P adr m cs):(∀c g,adr c=some g→adr2 (ρ c)=some g)→cS w P adr2 (dr ρ m) cs:=by
 induction h with
 | ptr g h=>intro k;exact .ptr g (k _ _ h)
 | ms g o cap h ho hcap hcap2 hsz=>intro k;exact .ms g o cap (k _ _ h) ho hcap hcap2 hsz
 | ms0=>intro _;exact .ms0
 | mp g h=>intro k;exact .mp g (k _ _ h)
 | st parts hp hr ih=>
  rename_i adr l;intro k;simp only [dr];cases hf:MV.idFrees l with
  | true=>exact ((cS.st parts hp hr).free hf).ofNone
  | false=>
   refine .st parts (by rw [fN];exact hp) fun j x p hx hq=>?_
   rw [gT] at hx;cases hj:l[j]? with
   | none=>rw [hj] at hx;cases hx
   | some y=>rw [hj] at hx;injection hx with hx;subst hx;exact ih j y p hj hq k
 | fn parts hp hr ih=>
  rename_i adr f l;intro k;simp only [dr];cases hf:MV.idFrees l with
  | true=>exact ((cS.fn parts hp hr).free hf).ofNone
  | false=>
   show cS w P adr2 (.fn f (renVs ρ l)) _
   rw [← oR (vN (ρ:=ρ) l)];refine .fn parts (by rw [fN];exact hp) fun j x p hx hq=>?_
   rw [gT] at hx;cases hj:l[j]? with
   | none=>rw [hj] at hx;cases hx
   | some y=>rw [hj] at hx;injection hx with hx;subst hx;exact ih j y p hj hq k
 | ifc cs hr ih=>
  rename_i adr t v;intro k;simp only [dr];cases hf:MV.idFree v with
  | true=>exact ((cS.ifc cs hr).free hf).ofNone
  | false=>
   have e:valM v cs=valM (dr ρ v) cs:=by unfold valM;rw [oT]
   show cS w P adr2 (.ifc t (dr ρ v)) _
   rw [e];exact .ifc cs (ih k)
 | int=>intro _;exact .int
 | bool=>intro _;exact .bool
 | str=>intro _;exact .str
 | nilp=>intro _;exact .nilp
 | gp=>intro _;exact .gp
 | ep b o vs hc hr ih=>intro _;exact .ep b o vs hc hr
 | sl A cap es parts hl hp hes hnn hcap hc hr ih=>intro _;exact .sl A cap es parts hl hp hes hnn hcap hc hr
 | nils=>intro _;exact .nils
 | nilf=>intro _;exact .nilf
 | nili=>intro _;exact .nili
 | arr parts hl hp hes hr ih=>intro _;exact .arr parts hl hp hes hr
theorem tn {ρ:Nat→Nat} {m:MV} {u:Value} (h:aK w P adr m u) (k: ∀c g,adr c=some g→adr2 (ρ c)=some g):aK w P adr2 (dr ρ m) u:=by
 cases h with
 | val cs h=>
  have e:valM m cs=valM (dr ρ m) cs:=by unfold valM;rw [oT]
  rw [e];exact .val cs (oU h k)
 | undef=>exact .undef
 | tup vs hl h=>
  rename_i l;refine .tup vs (by rw [fN];exact hl) fun j x u hx hu=>?_
  rw [gT] at hx;cases hj:l[j]? with
  | none=>rw [hj] at hx;cases hx
  | some y=>
   rw [hj] at hx;injection hx with hx
   subst hx;obtain⟨cs,h1,h2⟩:=h j y u hj hu;have e:valM y cs=valM (dr ρ y) cs:=by unfold valM;rw [oT]
   exact⟨cs,oU h1 k,by rw [h2,e]⟩
theorem get_app: ∀(A B:VM) (x:Nat),VM.get (A ++ B) x=match VM.get A x with | some b=>some b | none=>VM.get B x
 | [],B,x=>rfl
 | (c,b) :: A,B,x=>by
  show VM.get ((c,b) :: (A ++ B)) x=_
  rw [VM.get_cons,VM.get_cons,get_app A B x]
  split <;> rfl
theorem lP: ∀(σ:List (Nat×Nat)) (M:VM) (x:Nat) (b:MB),VM.get (iI M σ) x=some b→VM.get M x=some b∧∀c,(c,x) ∉ σ
 | [],M,x,b,h=>⟨h,fun _ h=>nomatch h⟩
 | (c,d) :: σ,M,x,b,h=>by
  obtain⟨h1,h2⟩:=lP σ (VM.del M d) x b h
  rw [VM.get_del] at h1
  obtain⟨h3,h4⟩:=mR h1
  refine⟨h4,fun c' hc=>?_⟩
  rcases b₄.1 hc with e | hc
  ·injection e with e1 e2;exact h3 e2
  ·exact h2 c' hc
theorem kc {ρ:Nat→Nat}: ∀(M1:VM) (x:Nat) (b:MB),VM.get (jO ρ M1) x=some b→(∀c d b b',VM.get M1 c=some b→VM.get M1 d=some b'→ρ c=ρ d→c=d)→∃c b0,x=ρ c∧VM.get M1 c=some b0∧b={ b0 with l:=bif b0.row then b0.l else renVs ρ b0.l }
 | [],x,b,h,_=>by cases h
 | (c,b0) :: M1,x,b,h,hi=>by
  have h':VM.get ((ρ c,{ b0 with l:=bif b0.row then b0.l else renVs ρ b0.l }) :: jO ρ M1) x=some b:=h
  rw [VM.get_cons] at h'
  split at h'
  ·rename_i e
   injection h' with h'
   exact⟨c,b0,e.symm,by rw [VM.get_cons,if_pos rfl],h'.symm⟩
  ·rename_i hne
   have hi2: ∀c d b b',VM.get M1 c=some b→VM.get M1 d=some b'→ρ c=ρ d→c=d:=by
    intro c1 d1 b1 b1' h1 h2 h3
    have q: ∀{z:Nat} {y:MB},VM.get M1 z=some y→∃y,VM.get ((c,b0) :: M1) z=some y:=by
     intro z y hz
     rw [VM.get_cons]
     split
     ·exact⟨_,rfl⟩
     ·exact⟨_,hz⟩
    obtain⟨_,q1⟩:=q h1
    obtain⟨_,q2⟩:=q h2
    exact hi c1 d1 _ _ q1 q2 h3
   obtain⟨c1,b1,h1,h2,h3⟩:=kc M1 x b h' hi2
   refine⟨c1,b1,h1,?_,h3⟩
   rw [VM.get_cons,if_neg]
   ·exact h2
   ·rintro rfl;exact hne h1.symm
theorem gU: ∀{σ:List (Nat×Nat)},iv M σ=true→∀c d,(c,d)∈σ→∃b,VM.get M d=some b
 | (x,y) :: σ,h,c,d,hm=>by
  have h:((VM.get M y).isSome && iv M σ)=true:=h
  rw [a₀] at h
  rcases b₄.1 hm with e | hm
  ·injection e with e1 e2
   subst e2
   exact Option.isSome_iff_exists.1 h.1
  ·exact gU h.2 c d hm
theorem oV: ∀{bs:List (Nat×Nat)} {x:Nat} {b:MB},VM.get (VM.bump M bs) x=some b→∃b',VM.get M x=some b':=by
 intro bs x b h;rw [VM.get_bump,bumpF_get] at h;cases hx:VM.get M x with
 | none=>rw [hx] at h;cases h
 | some b'=>exact ⟨b',rfl⟩
theorem nK {bs:List (Nat×Nat)} {x:Nat} {b:MB} (h:VM.get M x=some b): ∃b',VM.get (VM.bump M bs) x=some b':=by
 rw [VM.get_bump,bumpF_get,h];exact⟨_,rfl⟩
theorem CI {n0:Nat} {σ:List (Nat×Nat)} (h:r9 0 n0 σ=true):En σ=true:=by
 unfold r9 at h;simp only [a₀] at h;exact h.1.2
theorem dq.kp {l:List MV} {vs:List Value} (h:dq w P adr l vs) (k:bG w w' P P' adr adr'):dq w' P' adr' l vs:=by
 induction h with
 | nil=>exact .nil
 | cons h _ ih=>exact .cons (h.keep k) ih
theorem oQ.frz {N:Nat} {E':VE} {M':VM} (hs:oQ N w0 ex0 P0 (VE.get E) (VM.get M) n a w) (h:Ph n E' M' E M):oQ N w0 ex0 P0 (VE.get E') (VM.get M') n a w:=by
  obtain⟨bs,h2,h3,h4,h5⟩:=h;obtain⟨P,adr,hI,hE,ha1,ha2,ha3⟩:=hs.ex;have hσ:Gm n n [] :=j9 (by simp [r9,En]);obtain⟨P',i1,i2,i3,i4⟩:=hI.frozen h2;have e:fL (da n []) adr=adr:=by
    funext c;unfold fL da;rcases b₆ c n with h | h
    · have hb:b₁ c n=true:=by simpa [c₀] using h
      rw [hb];rfl
    · have hb:b₁ c n=false:=by
        cases hb:b₁ c n with
        | false=>rfl
        | true => have : c < n := by simpa [c₀] using hb
                  omega
      rw [hb,ha1 c h];rfl
  have j1:=i1.matched hσ i4 h5;rw [e] at j1;refine⟨⟨P',adr,j1,fun t v ht=>?_,ha1,ha2.frozen i2,fun b o ho=>?_⟩,fun c hc=>qC h3 hc,hs.ge,hs.since,hs.defers,hs.size⟩
  · obtain⟨v0,e1,e2⟩:=Be h4 ht;obtain⟨u,e3,e4⟩:=hE t v0 e1;have:=qB i4 e2 (e4.keep i2);rw [e] at this;exact⟨u,e3,this⟩
  · rcases i3 b o ho with h | ⟨c,h⟩
    · exact ha3 b o h
    · rcases ha2.in_ c b h with h | h
      · exact .inr (.inl h)
      · exact .inr (.inr h)
theorem vO {C:Program→FuncId→Array Value→World→(Ending→World→Prop)→Prop} (hC: ∀{Pg:Program} {f:FuncId} {vals:Array Value} {w:World} {Q R:Ending→World→Prop},C Pg f vals w Q→(∀e w,Q e w→R e w)→C Pg f vals w R) (hS:jZ Pg T ents G w0 ex0) {f:FuncId} {vs:List MV} {vals:List Value} {K:MV→VM→Nat→Prop} (h:jj Pg G (CG C) M n f vs K) (hsn:cG ex0.ex w0 w) (hfr: ∀c,n≤c→VM.get M c=none) (hge:ex0.n0≤n)
  (hI:aX w P adr (VM.get M)) (hE:gw w P adr (VE.get E) a) (ha1: ∀c,n≤c→adr c=none) (ha2:iP w0 ex0 P0 w P adr) (ha3: ∀b o,P b o→P0 b o∨w0.heap.size≤b∨ex0.ex b) (hvs:dq w P adr vs vals) :
  C Pg f vals.toArray w fun e w'=> ∃v,e= .returned v∧∃r M' n',K r M' n'∧∃P' adr',aX w' P' adr' (VM.get M')∧gw w' P' adr' (VE.get E) a∧aK w' P' adr' r v∧(∀c,n'≤c→adr' c=none)∧iP w0 ex0 P0 w' P' adr'∧(∀b o,P' b o→P0 b o∨w0.heap.size≤b∨ex0.ex b)∧(∀c,n'≤c→VM.get M' c=none)∧ex0.n0≤n'∧cG ex0.ex w0 w':=by
 obtain⟨args,M0,n0,Φ,hsem,σ,bs,⟨hok,hokb,hall,hrel,hmm⟩,hin,hfin⟩:=h
 have hσ:=j9 hok
 have hinj:=CI hok
 obtain⟨Pb,i1,i2,i3,i4⟩:=hI.frozen hokb
 have hI0:=i1.matched hσ i4 hmm
 have hargs:=(iu i4 hrel (hvs.kp i2)).1
 have eσ: ∀c,fL (da 0 σ) adr c=(mV σ c).bind adr:=fun c=>rfl
 have dom: ∀{c d},mV σ c=some d→d < n:=fun {c d} hc=>by
  obtain⟨b,hb⟩:=gU hin c d (fM hc)
  rcases b₆ d n with h | h
  ·exact h
  ·rw [hfr d h] at hb;cases hb
 have passed: ∀{c g},fL (da 0 σ) adr c=some g→∃d,mV σ c=some d∧adr d=some g:=fun {c g} hc=>by
  rw [eσ] at hc
  cases hd:mV σ c with
  | none=>rw [hd] at hc;cases hc
  | some d=>rw [hd] at hc;exact⟨d,rfl,hc⟩
 have hL: ∀c g,adr c=some g→¬ G.L g:=fun c g hc hl=>by
  rcases ha2.in_ c g hc with h | h
  ·have:=hS.lt g hl;omega
  ·exact hS.out g h hl
 refine hC (hsem w Pb _ vals (hS.good w hsn) hI0 (fun c hc=>ka hσ hc) (fun c g hc=>by obtain⟨d,_,hd⟩:=passed hc;exact hL d g hd) hargs) ?_
 rintro e w' ⟨v,rfl,res,M1,n1,hΦ,P',adr',j1,j2,j3,j4,j5,j6,j7,j8⟩
 obtain⟨hall1,hK⟩:=hfin _ _ _ hΦ
 refine⟨v,rfl,_,_,_,hK,P',fun x=>if x < n then adr x else adr' (x - n),?_⟩
 have hold: ∀{x},x < n→(fun x=>if x < n then adr x else adr' (x - n)) x=adr x:=fun {x} hx=>by simp [hx]
 have hnew: ∀{c},(fun x=>if x < n then adr x else adr' (x - n)) (n + c)=adr' c:=fun {c}=>by
  have: ¬ n + c < n:=om
  simp [this]
 have lt_of: ∀{x g},adr x=some g→x < n:=fun {x g} hx=>by
  rcases b₆ x n with h | h
  ·exact h
  ·rw [ha1 x h] at hx;cases hx
 have hrho: ∀c,(fun x=>if x < n then adr x else adr' (x - n)) (rK n σ c)=adr' c:=fun c=>by
  unfold rK
  cases hd:mV σ c with
  | none=>exact hnew
  | some d=>
   rw [hold (dom hd)]
   have hc:c < n0:=hσ.lt (c:=c) (d:=d) hd
   rw [j4 c hc,eσ,hd];rfl
 have kb:bG w w' Pb P' adr (fun x=>if x < n then adr x else adr' (x - n)):=by
  refine⟨j3.prot,j3.cell,fun c g hc=>(hold (lt_of hc)).trans hc,fun c g cur ty hc hw=>?_⟩
  by_cases hp: ∃c0,fL (da 0 σ) adr c0=some g
  ·obtain⟨c0,hc0⟩:=hp
   exact j3.size c0 g cur ty hc0 hw
  ·exact⟨cur,(j8.block g (Array.getElem?_eq_some_iff.1 hw).1 hp).trans hw,rfl⟩
 have k:=i2.trans kb
 have hrinj: ∀c d b b',VM.get M1 c=some b→VM.get M1 d=some b'→rK n σ c=rK n σ d→c=d:=by
  intro c d b b' _ _ h
  unfold rK at h
  cases hc:mV σ c with
  | none=>
   cases hd:mV σ d with
   | none=>rw [hc,hd] at h;simp only at h;omega
   | some y=>rw [hc,hd] at h;simp only at h;have:=dom hd;omega
  | some x=>
   cases hd:mV σ d with
   | none=>rw [hc,hd] at h;simp only at h;have:=dom hc;omega
   | some y=>rw [hc,hd] at h;simp only at h;subst h;exact sy hinj hc hd
 have hlast: ∀{x b},VM.get (jO (rK n σ) M1 ++ iI (VM.bump M bs) σ) x=some b→(∃c b0,x=rK n σ c∧VM.get M1 c=some b0∧b={ b0 with l:=bif b0.row then b0.l else renVs (rK n σ) b0.l })∨(VM.get (VM.bump M bs) x=some b∧x < n∧∀c,(c,x) ∉ σ):=by
  intro x b hx
  rw [get_app] at hx
  split at hx
  ·rename_i b' hb'
   injection hx with hx
   subst hx
   exact .inl (kc M1 x b' hb' hrinj)
  ·obtain⟨h1,h2⟩:=lP σ _ x b hx
   obtain⟨b',h3⟩:=oV h1
   refine .inr ⟨h1,?_,h2⟩
   rcases b₆ x n with h | h
   ·exact h
   ·rw [hfr x h] at h3;cases h3
 have fresh1: ∀{c b},VM.get M1 c=some b→c < n1:=fun {c b} hc=>by
  rcases b₆ c n1 with h | h
  ·exact h
  ·rw [qC hall1 h] at hc;cases hc
 have notp: ∀{x b g},VM.get (VM.bump M bs) x=some b→(∀c,(c,x) ∉ σ)→adr x=some g→¬ ∃c0,fL (da 0 σ) adr c0=some g:=by
  rintro x b g hx hn hg ⟨c0,hc0⟩
  obtain⟨d,h1,h2⟩:=passed hc0
  obtain⟨b',hb'⟩:=gU hin c0 d (fM h1)
  obtain⟨b'',hb''⟩:=nK (bs:=bs) hb'
  have:=i1.inj x d b b'' g hx hb'' hg h2
  subst this
  exact hn c0 (fM h1)
 refine⟨⟨fun x b hx=>?_,fun x y bx by_ g hx hy hgx hgy=>?_,j1.prot⟩,fun t z ht=>?_,tn j2 fun c g hc=>(hrho c).trans hc,fun c hc=>?_,⟨fun c g hc=>?_,fun c hc=>(hold om).trans (ha2.old c hc),ha2.keep.trans k⟩,fun b o ho=>?_,fun c hc=>?_,om,?_⟩
 ·rcases hlast hx with ⟨c,b0,rfl,h1,rfl⟩ | ⟨h1,h2,h3⟩
  ·rcases j1.blk c b0 h1 with q | ⟨g,q1,q2⟩
   ·refine .inl ⟨q.1,?_,(hrho c).trans q.2.2.1,q.2.2.2⟩
    simp [q.1,q.2.1]
   ·refine .inr ⟨g,(hrho c).trans q1,?_⟩
    rcases q2.has' with ⟨cur,parts,c1,c2,c3,c4,c5⟩ | ⟨m1,m2,ks,vs,o,m3,m4,m5⟩
    rotate_left
    ·exact⟨.inr ⟨m1,m2,ks,vs,o,by simp [m1,m3,renVs,dr],m4,m5⟩,q2.pe,by simp only [m1,cond_false,fN];exact q2.le⟩
    have hlen:(bif b0.row then b0.l else renVs (rK n σ) b0.l).length=b0.l.length:=by
     cases b0.row
     ·exact fN _
     ·rfl
    refine⟨.inl ⟨cur,parts,c1,by simp only [hlen];exact c2,c3,fun j x p hx hp=>?_,c5⟩,q2.pe,by simp only [hlen];exact q2.le⟩
    simp only at hx ⊢
    cases hrow:b0.row with
    | true=>rw [hrow] at hx c4;exact c4 j x p hx hp
    | false=>
     rw [hrow] at hx c4
     simp only [cond_false,gT] at hx
     cases hj:b0.l[j]? with
     | none=>rw [hj] at hx;cases hx
     | some y=>
      rw [hj] at hx
      injection hx with hx
      subst hx
      exact oU (c4 j y p hj hp) fun c g hc=>(hrho c).trans hc
  ·rcases i1.blk x b h1 with q | ⟨g,q1,q2⟩
   ·exact .inl ⟨q.1,q.2.1,(hold h2).trans q.2.2.1,q.2.2.2⟩
   ·have hnp:=notp h1 h3 q1
    refine .inr ⟨g,(hold h2).trans q1,q2.keep kb (j8.block g q2.lt hnp) fun o ho=>?_⟩
    rcases j7 g o ho with h | h | h
    ·exact h
    ·exact absurd q2.lt om
    ·exact absurd h hnp
 ·have cross: ∀{c x b0 b1},VM.get M1 c=some b0→VM.get (VM.bump M bs) x=some b1→x < n→(∀c,(c,x) ∉ σ)→adr' c=some g→adr x=some g→False:=by
   intro c x b0 b1 _ h1 h2 h3 h4 h5
   rcases j6 c g h4 with h | h
   ·rcases i1.blk x b1 h1 with q | ⟨g',q1,q2⟩
    ·rw [h5] at q;cases q.2.2.1
    ·rw [h5] at q1;injection q1 with q1;subst q1;have:=q2.lt;omega
   ·exact notp h1 h3 h5 h
  rcases hlast hx with ⟨c,b0,rfl,h1,rfl⟩ | ⟨h1,h2,h3⟩ <;> rcases hlast hy with ⟨d,d0,rfl,k1,rfl⟩ | ⟨k1,k2,k3⟩
  ·rw [j1.inj c d b0 d0 g h1 k1 ((hrho c).symm.trans hgx) ((hrho d).symm.trans hgy)]
  ·exact(cross h1 k1 k2 k3 ((hrho c).symm.trans hgx) ((hold k2).symm.trans hgy)).elim
  ·exact(cross k1 h1 h2 h3 ((hrho d).symm.trans hgy) ((hold h2).symm.trans hgx)).elim
  ·exact i1.inj x y bx by_ g h1 k1 ((hold h2).symm.trans hgx) ((hold k2).symm.trans hgy)
 ·obtain⟨u,h1,h2⟩:=hE t z ht
  exact⟨u,h1,h2.keep k⟩
 ·have h1: ¬ c < n:=om
  simp only [h1,if_false]
  exact j5 _ om
 ·by_cases h1:c < n
  ·simp only [h1,if_true] at hc;exact ha2.in_ c g hc
  ·simp only [h1,if_false] at hc
   rcases j6 _ g hc with h | ⟨c0,h⟩
   ·exact .inl (b₃ hsn.size h)
   ·obtain⟨d,_,hd⟩:=passed h;exact ha2.in_ d g hd
 ·rcases j7 b o ho with h | h | ⟨c0,h⟩
  ·rcases i3 b o h with h | ⟨c,h⟩
   ·exact ha3 b o h
   ·rcases ha2.in_ c b h with h | h
    ·exact .inr (.inl h)
    ·exact .inr (.inr h)
  ·exact .inr (.inl (b₃ hsn.size h))
  ·obtain⟨d,_,hd⟩:=passed h
   rcases ha2.in_ d b hd with h | h
   ·exact .inr (.inl h)
   ·exact .inr (.inr h)
 ·cases hx:VM.get (jO (rK n σ) M1 ++ iI (VM.bump M bs) σ) c with
  | none=>rfl
  | some b=>
   exfalso
   rcases hlast hx with ⟨d,b0,rfl,h1,_⟩ | ⟨_,h2,_⟩
   ·have h3:=fresh1 h1
    unfold rK at hc
    cases hd:mV σ d with
    | none=>rw [hd] at hc;simp only at hc;omega
    | some y=>rw [hd] at hc;simp only at hc;have:=dom hd;omega
   ·omega
 ·refine⟨j8.os.trans hsn.os,j8.tape.trans hsn.tape,j8.output.trans hsn.output,b₃ hsn.size j8.size,fun b hb hne=>(j8.block b (a₇ hb hsn.size) fun⟨c0,hc0⟩=>?_).trans (hsn.block b hb hne)⟩
  obtain⟨d,_,hd⟩:=passed hc0
  rcases ha2.in_ d b hd with h | h
  ·omega
  ·exact hne h
theorem Eo (hS:jZ Pg T ents G w0 ex0) {f:FuncId} {vs:List MV} {vals:List Value} {fp:List Nat} {K:MV→VM→Prop} (h:lO Pg G M n f vs fp K) (hsn:cG ex0.ex w0 w) (hfr:VM.get M n=none) (hge:ex0.n0≤n) (han:adr n=none)
  (hI:aX w P adr (VM.get M)) (hE:gw w P adr ev a) (ha2:iP w0 ex0 P0 w P adr) (ha3: ∀b o,P b o→P0 b o∨w0.heap.size≤b∨ex0.ex b) (hvs:dq w P adr vs vals) :
  Calls Pg f vals.toArray w fun e w'=> ∃v,e= .returned v∧∃r M',K r M'∧∃P' adr1,aX w' P' adr1 (VM.get M')∧gw w' P' adr1 ev a∧aK w' P' adr1 r v∧(∀c,c≠n→adr1 c=adr c)∧iP w0 ex0 P0 w' P' adr1∧(∀b o,P' b o→P0 b o∨w0.heap.size≤b∨ex0.ex b)∧(∀c,c≠n→VM.get M c=none→VM.get M' c=none)∧cG ex0.ex w0 w':=by
 obtain⟨args,M0,n0,res,M1,n1,hsem,σ,bs,⟨hok,hokb,hall,hrel,hmm⟩,hin,hall1,_,_,hK⟩:=h
 unfold CH at hall1
 rw [a₀] at hall1
 obtain⟨hn1,hall1⟩:=hall1
 have hn1:n1≤n0 + 1:=Nat.le_of_ble_eq_true hn1
 have hσ:=j9 hok
 have hinj:=CI hok
 obtain⟨Pb,i1,i2,i3,i4⟩:=hI.frozen hokb
 have hI0:=i1.matched hσ i4 hmm
 have hargs:=(iu i4 hrel (hvs.kp i2)).1
 have eσ: ∀c,fL (da 0 σ) adr c=(mV σ c).bind adr:=fun c=>rfl
 have passed: ∀{c g},fL (da 0 σ) adr c=some g→∃d,mV σ c=some d∧adr d=some g:=fun {c g} hc=>by
  rw [eσ] at hc
  cases hd:mV σ c with
  | none=>rw [hd] at hc;cases hc
  | some d=>rw [hd] at hc;exact⟨d,rfl,hc⟩
 have dom: ∀{c d},mV σ c=some d→d≠n:=fun {c d} hc hd=>by
  obtain⟨b,hb⟩:=gU hin c d (fM hc)
  rw [hd,hfr] at hb;cases hb
 have hL: ∀c g,adr c=some g→¬ G.L g:=fun c g hc hl=>by
  rcases ha2.in_ c g hc with h | h
  ·have:=hS.lt g hl;omega
  ·exact hS.out g h hl
 refine(hsem w Pb _ vals (hS.good w hsn) hI0 (fun c hc=>ka hσ hc) (fun c g hc=>by obtain⟨d,_,hd⟩:=passed hc;exact hL d g hd) hargs).mono ?_
 rintro e w' ⟨v,rfl,P',adr',j1,j2,j3,j4,j5,j6,j7,j8⟩
 refine⟨v,rfl,_,_,hK,P',fun x=>if x=n then adr' n0 else adr x,?_⟩
 have hold: ∀{x},x≠n→(fun x=>if x=n then adr' n0 else adr x) x=adr x:=fun {x} hx=>by simp [hx]
 have hnew:(fun x=>if x=n then adr' n0 else adr x) n=adr' n0:=sm
 have ne_of: ∀{x g},adr x=some g→x≠n:=fun {x g} hx hn=>by rw [hn,han] at hx;cases hx
 have hM1: ∀{c b},VM.get M1 c=some b→(∃d,mV σ c=some d)∨(mV σ c=none∧c=n0):=fun {c b} hc=>by
  rw [b₉] at hall1
  have:=hall1 _ (VM.get_mem hc)
  cases hd:mV σ c with
  | some d=>exact .inl ⟨d,rfl⟩
  | none=>
   simp only [hd,Option.isSome_none,Bool.false_or,a₀] at this
   exact .inr ⟨rfl,a₁ this.1⟩
 have hrho: ∀c,(c=n0∨∃d,mV σ c=some d)→(fun x=>if x=n then adr' n0 else adr x) (jA n σ c)=adr' c:=fun c hc=>by
  unfold jA
  cases hd:mV σ c with
  | none=>
   rcases hc with rfl | ⟨d,hc⟩
   ·exact hnew
   ·rw [hd] at hc;cases hc
  | some d=>
   rw [hold (dom hd)]
   have hlt:c < n0:=hσ.lt (c:=c) (d:=d) hd
   rw [j4 c hlt,eσ,hd];rfl
 have hrho': ∀c g,adr' c=some g→(fun x=>if x=n then adr' n0 else adr x) (jA n σ c)=some g:=fun c g hc=>by
  refine(hrho c ?_).trans hc
  rcases b₆ c n0 with h | h
  ·rw [j4 c h] at hc
   obtain⟨d,hd,_⟩:=passed hc
   exact .inr ⟨d,hd⟩
  ·rcases b₆ c n1 with h2 | h2
   ·exact .inl om
   ·rw [j5 c h2] at hc;cases hc
 have hrho1: ∀{c b},VM.get M1 c=some b→(fun x=>if x=n then adr' n0 else adr x) (jA n σ c)=adr' c:=fun {c b} hc=>hrho c (by
  rcases hM1 hc with h | h
  ·exact .inr h
  ·exact .inl h.2)
 have kb:bG w w' Pb P' adr (fun x=>if x=n then adr' n0 else adr x):=by
  refine⟨j3.prot,j3.cell,fun c g hc=>(hold (ne_of hc)).trans hc,fun c g cur ty hc hw=>?_⟩
  by_cases hp: ∃c0,fL (da 0 σ) adr c0=some g
  ·obtain⟨c0,hc0⟩:=hp
   exact j3.size c0 g cur ty hc0 hw
  ·exact⟨cur,(j8.block g (Array.getElem?_eq_some_iff.1 hw).1 hp).trans hw,rfl⟩
 have k:=i2.trans kb
 have hrinj: ∀c d b b',VM.get M1 c=some b→VM.get M1 d=some b'→jA n σ c=jA n σ d→c=d:=by
  intro c d b b' hc hd h
  unfold jA at h
  rcases hM1 hc with ⟨x,hx⟩ | ⟨hx,hx0⟩ <;> rcases hM1 hd with ⟨y,hy⟩ | ⟨hy,hy0⟩ <;> rw [hx,hy] at h <;> simp only at h
  ·subst h;exact sy hinj hx hy
  ·exact absurd h (dom hx)
  ·exact absurd h.symm (dom hy)
  ·rw [hx0,hy0]
 have hlast: ∀{x b},VM.get (jO (jA n σ) M1 ++ iI (VM.bump M bs) σ) x=some b→(∃c b0,x=jA n σ c∧VM.get M1 c=some b0∧b={ b0 with l:=bif b0.row then b0.l else renVs (jA n σ) b0.l })∨(VM.get (VM.bump M bs) x=some b∧x≠n∧∀c,(c,x) ∉ σ):=by
  intro x b hx
  rw [get_app] at hx
  split at hx
  ·rename_i b' hb'
   injection hx with hx
   subst hx
   exact .inl (kc M1 x b' hb' hrinj)
  ·obtain⟨h1,h2⟩:=lP σ _ x b hx
   obtain⟨b',h3⟩:=oV h1
   exact .inr ⟨h1,fun hn=>(by rw [hn,hfr] at h3;cases h3),h2⟩
 have notp: ∀{x b g},VM.get (VM.bump M bs) x=some b→(∀c,(c,x) ∉ σ)→adr x=some g→¬ ∃c0,fL (da 0 σ) adr c0=some g:=by
  rintro x b g hx hn hg ⟨c0,hc0⟩
  obtain⟨d,h1,h2⟩:=passed hc0
  obtain⟨b',hb'⟩:=gU hin c0 d (fM h1)
  obtain⟨b'',hb''⟩:=nK (bs:=bs) hb'
  have:=i1.inj x d b b'' g hx hb'' hg h2
  subst this
  exact hn c0 (fM h1)
 refine⟨⟨fun x b hx=>?_,fun x y bx by_ g hx hy hgx hgy=>?_,j1.prot⟩,fun t z ht=>?_,tn j2 hrho',fun c hc=>hold hc,⟨fun c g hc=>?_,fun c hc=>(hold om).trans (ha2.old c hc),ha2.keep.trans k⟩,fun b o ho=>?_,fun c hcn hc=>?_,?_⟩
 ·rcases hlast hx with ⟨c,b0,rfl,h1,rfl⟩ | ⟨h1,h2,h3⟩
  ·rcases j1.blk c b0 h1 with q | ⟨g,q1,q2⟩
   ·refine .inl ⟨q.1,?_,(hrho1 h1).trans q.2.2.1,q.2.2.2⟩
    simp [q.1,q.2.1]
   ·refine .inr ⟨g,(hrho1 h1).trans q1,?_⟩
    rcases q2.has' with ⟨cur,parts,c1,c2,c3,c4,c5⟩ | ⟨m1,m2,ks,vs,o,m3,m4,m5⟩
    rotate_left
    ·exact⟨.inr ⟨m1,m2,ks,vs,o,by simp [m1,m3,renVs,dr],m4,m5⟩,q2.pe,by simp only [m1,cond_false,fN];exact q2.le⟩
    have hlen:(bif b0.row then b0.l else renVs (jA n σ) b0.l).length=b0.l.length:=by
     cases b0.row
     ·exact fN _
     ·rfl
    refine⟨.inl ⟨cur,parts,c1,by simp only [hlen];exact c2,c3,fun j x p hx hp=>?_,c5⟩,q2.pe,by simp only [hlen];exact q2.le⟩
    simp only at hx ⊢
    cases hrow:b0.row with
    | true=>rw [hrow] at hx c4;exact c4 j x p hx hp
    | false=>
     rw [hrow] at hx c4
     simp only [cond_false,gT] at hx
     cases hj:b0.l[j]? with
     | none=>rw [hj] at hx;cases hx
     | some y=>
      rw [hj] at hx
      injection hx with hx
      subst hx
      exact oU (c4 j y p hj hp) hrho'
  ·rcases i1.blk x b h1 with q | ⟨g,q1,q2⟩
   ·exact .inl ⟨q.1,q.2.1,(hold h2).trans q.2.2.1,q.2.2.2⟩
   ·have hnp:=notp h1 h3 q1
    refine .inr ⟨g,(hold h2).trans q1,q2.keep kb (j8.block g q2.lt hnp) fun o ho=>?_⟩
    rcases j7 g o ho with h | h | h
    ·exact h
    ·exact absurd q2.lt om
    ·exact absurd h hnp
 ·have cross: ∀{c x b0 b1},VM.get M1 c=some b0→VM.get (VM.bump M bs) x=some b1→x≠n→(∀c,(c,x) ∉ σ)→adr' c=some g→adr x=some g→False:=by
   intro c x b0 b1 _ h1 h2 h3 h4 h5
   rcases j6 c g h4 with h | h
   ·rcases i1.blk x b1 h1 with q | ⟨g',q1,q2⟩
    ·rw [h5] at q;cases q.2.2.1
    ·rw [h5] at q1;injection q1 with q1;subst q1;have:=q2.lt;omega
   ·exact notp h1 h3 h5 h
  rcases hlast hx with ⟨c,b0,rfl,h1,rfl⟩ | ⟨h1,h2,h3⟩ <;> rcases hlast hy with ⟨d,d0,rfl,k1,rfl⟩ | ⟨k1,k2,k3⟩
  ·rw [j1.inj c d b0 d0 g h1 k1 ((hrho1 h1).symm.trans hgx) ((hrho1 k1).symm.trans hgy)]
  ·exact(cross h1 k1 k2 k3 ((hrho1 h1).symm.trans hgx) ((hold k2).symm.trans hgy)).elim
  ·exact(cross k1 h1 h2 h3 ((hrho1 k1).symm.trans hgy) ((hold h2).symm.trans hgx)).elim
  ·exact i1.inj x y bx by_ g h1 k1 ((hold h2).symm.trans hgx) ((hold k2).symm.trans hgy)
 ·obtain⟨u,h1,h2⟩:=hE t z ht
  exact⟨u,h1,h2.keep k⟩
 ·by_cases h1:c=n
  ·simp only [h1,if_true] at hc
   rcases j6 _ g hc with h | ⟨c0,h⟩
   ·exact .inl (b₃ hsn.size h)
   ·obtain⟨d,_,hd⟩:=passed h;exact ha2.in_ d g hd
  ·simp only [h1,if_false] at hc;exact ha2.in_ c g hc
 ·rcases j7 b o ho with h | h | ⟨c0,h⟩
  ·rcases i3 b o h with h | ⟨c,h⟩
   ·exact ha3 b o h
   ·rcases ha2.in_ c b h with h | h
    ·exact .inr (.inl h)
    ·exact .inr (.inr h)
  ·exact .inr (.inl (b₃ hsn.size h))
  ·obtain⟨d,_,hd⟩:=passed h
   rcases ha2.in_ d b hd with h | h
   ·exact .inr (.inl h)
   ·exact .inr (.inr h)
 ·cases hx:VM.get (jO (jA n σ) M1 ++ iI (VM.bump M bs) σ) c with
  | none=>rfl
  | some b=>
   exfalso
   rcases hlast hx with ⟨d,b0,rfl,h1,_⟩ | ⟨h2,_,_⟩
   ·rcases hM1 h1 with ⟨y,hy⟩ | ⟨hy,_⟩
    ·unfold jA at hc
     rw [hy] at hc
     obtain⟨b',hb'⟩:=gU hin d y (fM hy)
     rw [hb'] at hc;cases hc
    ·unfold jA at hcn
     rw [hy] at hcn
     exact hcn rfl
   ·obtain⟨b',h3⟩:=oV h2
    rw [hc] at h3;cases h3
 ·refine⟨j8.os.trans hsn.os,j8.tape.trans hsn.tape,j8.output.trans hsn.output,b₃ hsn.size j8.size,fun b hb hne=>(j8.block b (a₇ hb hsn.size) fun⟨c0,hc0⟩=>?_).trans (hsn.block b hb hne)⟩
  obtain⟨d,_,hd⟩:=passed hc0
  rcases ha2.in_ d b hd with h | h
  ·omega
  ·exact hne h
end
end
section
def af {A:Type} (x:bj A):Prop:= ∀K,x.runP K→∃a,x.runP (fun y=>y=a)∧K a∧∀K':A→Prop,K' a→x.runP K'
section
variable {A B α:Type}
theorem af.ret (a:A):af (bj.ret a):=fun _ h=>⟨a,rfl,h,fun _ h=>h⟩
theorem af.bad:af (bj.bad:bj A):=fun _ h=>h.elim
theorem af.ask {o:Option α} {k:α→bj A} (h: ∀a,af (k a)):af (bj.ask o k):=by
 rintro K ⟨a,h1,h2⟩;obtain⟨x,h3,h4,h5⟩:=h a K h2;exact⟨x,⟨a,h1,h3⟩,h4,fun K' hk=>⟨a,h1,h5 K' hk⟩⟩
theorem af.prf {p:Prop} {d:Decidable p} {k:bj A} (h:af k):af (bj.prf p d k):=by
 rintro K ⟨h1,h2⟩;obtain⟨x,h3,h4,h5⟩:=h K h2;exact⟨x,⟨h1,h3⟩,h4,fun K' hk=>⟨h1,h5 K' hk⟩⟩
theorem af.br {t:Bool} {x y:bj A} (hx:af x) (hy:af y):af (bj.br t x y):=by
 rintro K ⟨h1,h2⟩;cases t with
 | true=>
  obtain⟨a,h3,h4,h5⟩:=hx K (h1 rfl);exact⟨a,⟨fun _=>h3,fun h=>nomatch h⟩,h4,fun K' hk=>⟨fun _=>h5 K' hk,fun h=>nomatch h⟩⟩
 | false=>
  obtain⟨a,h3,h4,h5⟩:=hy K (h2 rfl);exact⟨a,⟨fun h=>(nomatch h),fun _=>h3⟩,h4,fun K' hk=>⟨fun h=>(nomatch h),fun _=>h5 K' hk⟩⟩
theorem af.bind {x:bj A} {f:A→bj B} (hx:af x) (hf: ∀a,af (f a)):af (x.bind f):=by
 intro K h;obtain⟨a,h1,h2,h3⟩:=hx _ h;obtain⟨b,h4,h5,h6⟩:=hf a K h2;exact⟨b,h3 _ h4,h5,fun K' hk=>h3 _ (h6 K' hk)⟩
theorem af.val {a:α} {k:α→bj A} (h: ∀a,af (k a)):af (val a k):=af.ask h
theorem af.cond {b:Bool} {x y:bj A} (hx:af x) (hy:af y):af (bif b then x else y):=by cases b <;> assumption
theorem af.rd {e:Nat→Option MV} {x:Operand} {k:MV→bj A} (h: ∀a,af (k a)):af (rd e x k):=by
 show af (match iV e x with | some m=>k m | none=> .bad)
 split
 ·exact h _
 ·exact af.bad
theorem af.rds {e:Nat→Option MV}: ∀{xs:List Operand} {k:List MV→bj A},(∀a,af (k a))→af (mS e xs k)
 | [],_,h=>h _
 | _ :: _,_,h=>af.rd fun _=>af.rds fun _=>h _
theorem af.rdo {e:Nat→Option MV} {x:Option Operand} {k:Option MV→bj A} (h: ∀a,af (k a)):af (Jt e x k):=by
 cases x with
 | none=>exact h _
 | some x=>exact af.rd fun _=>h _
end
section
variable (P:Program) (T:bB) (E:Nat→Option MV) (M:FM) (cnt:Nat)
theorem iw (m:MV):af (pureA m):=af.ret _
theorem tq (op:BinOp) (k:IntKind) (a b:Int):af (F9 op k a b):=by
 cases op <;> first | exact af.ret _ | exact af.val fun _=>af.ret _ | exact af.prf (d:=inferInstance) (af.val fun _=>af.ret _)
theorem tr (op:BinOp) (a b:List UInt8):af (Jv op a b):=by
 cases op <;> first | exact af.bad | exact af.ret _ | exact af.prf (d:=inferInstance) (af.val fun _=>af.ret _)
theorem ts (op:BinOp) (a b:Bool):af (Ga op a b):=by
 cases op <;> first | exact af.bad | exact af.ret _
theorem kT (b:Option Bool) (op:BinOp):af (vi b op):=by
 cases b with
 | none=>exact af.bad
 | some b=>cases op <;> first | exact af.bad | exact af.ret _
theorem Ep (op:BinOp) (t:TypeId) (x y:MV):af (LP P T op t x y):=by
 unfold LP;split
 ·exact af.cond (af.prf (af.ask fun _=>kT _ _)) af.bad
 ·exact af.bad
theorem Bf (op:BinOp) (t:TypeId) (yo:Operand) (x y:MV):af (D0 P T op t yo x y):=by
 unfold D0;split
 ·split
  ·exact af.cond (af.bind (tq _ _ _ _) iw) af.bad
  ·exact af.bad
 ·split
  ·exact af.bind (tr _ _ _) iw
  ·exact af.bad
 ·split
  ·split
   ·exact af.bind (ts _ _ _) iw
   ·exact af.bad
  ·exact af.bad
 ·split
  ·exact kT _ _
  ·exact af.bad
 ·split
  ·exact kT _ _
  ·exact af.bad
 ·split
  ·exact kT _ _
  ·exact af.bad
 ·exact Ep P T op t _ _
mutual
theorem vP: ∀(p:MV),af (dA M p)
 | .ms c es off n=>by
  simp only [dA]
  split
  ·split
   ·exact af.prf (af.val fun _=>af.ret _)
   ·exact af.bad
  ·exact af.bad
 | .st l=>by simp only [dA];exact af.bind (kU l) fun _=>af.ret _
 | .fn f l=>by simp only [dA];exact af.bind (kU l) fun _=>af.ret _
 | .ifc t v=>by simp only [dA];exact af.bind (vP v) fun _=>af.ret _
 | .ptr c es k fo path=>by
  simp only [dA]
  split
  ·exact af.cond (af.ask fun _=>af.cond (af.ret _) af.bad) af.bad
  ·exact af.bad
 | .tup _=>af.bad
 | .undef=>af.bad
 | .mp _=>af.bad
 | .mpv .. =>af.bad
 | .int .. =>af.ret _
 | .bool .. =>af.ret _
 | .str .. =>af.ret _
 | .nilp=>af.ret _
 | .gp .. =>af.ret _
 | .ep .. =>af.ret _
 | .sl .. =>af.ret _
 | .nils=>af.ret _
 | .nilf=>af.ret _
 | .nili=>af.ret _
 | .arr .. =>af.ret _
theorem kU: ∀(l:List MV),af (gg M l)
 | [] =>af.ret _
 | m :: l=>by simp only [gg];exact af.bind (vP m) fun _=>af.bind (kU l) fun _=>af.ret _
end
theorem yT (t:TypeId) (p:MV):af (gG T M t p):=by
 unfold gG;split
 ·exact af.bad
 ·split
  ·split
   ·exact af.cond (af.ask fun _=>af.ask fun _=>af.cond (af.ret _) af.bad) af.bad
   ·exact af.bad
  ·exact af.ask fun _=>af.cond (af.ret _) af.bad
  ·exact af.bad
theorem xn (t:TypeId) (p v:MV):af (fZ T M t p v):=by
 unfold fZ;split
 ·exact af.bad
 ·split
  ·split
   ·exact af.cond (af.prf (af.ask fun _=>af.ask fun _=>af.val fun _=>af.ret _)) af.bad
   ·exact af.bad
  ·exact af.bad
theorem qE (t:TypeId) (p:MV) (f:Nat):af (gq T t p f):=by
 unfold gq
 repeat' split
 all_goals first | exact af.bad | exact af.ret _
theorem qF (t:TypeId) (p j:MV):af (gr T t p j):=by
 unfold gr
 repeat' split
 all_goals first | exact af.bad | exact af.ask fun _=>af.cond (af.ret _) af.bad | exact af.cond (af.ask fun _=>af.ret _) af.bad | exact af.ask fun _=>af.ret _
theorem xp (t:TypeId) (p j:MV):af (nU T t p j):=by
 unfold nU
 repeat' split
 all_goals first | exact af.bad | exact af.ask fun _=>af.ret _ | exact af.cond (af.ask fun _=>af.cond (af.ret _) af.bad) af.bad
theorem xq (t:TypeId) (p:MV) (f:Nat):af (nV T t p f):=by
 unfold nV
 repeat' split
 all_goals first | exact af.bad | exact af.cond (af.ret _) af.bad
theorem xr (t:TypeId) (x:MV) (lo hi:Option MV):af (nW T t x lo hi):=by
 unfold nW
 repeat' split
 all_goals first | exact af.bad | exact af.ask fun _=>af.val fun _=>af.ret _ | exact af.ask fun _=>af.prf (af.val fun _=>af.val fun _=>af.ret _) | exact af.cond (af.ask fun _=>af.val fun _=>af.ret _) af.bad | exact af.ask fun _=>af.ret _
theorem vr (t:TypeId) (x:MV) (lo hi:Option MV):af (fg T M t x lo hi):=by
 unfold fg;split
 ·split
  ·split
   ·exact af.cond (af.ask fun _=>af.val fun _=>af.val fun _=>af.ret _) af.bad
   ·exact af.bad
  ·exact af.bad
 ·exact xr T _ _ _ _
theorem xt (t:TypeId) (ps:List (Nat×MV)):af (nX T t ps):=by
 unfold nX;split
 ·refine af.cond ?_ af.bad;split
  ·exact af.ret _
  ·exact af.bad
 ·refine af.cond ?_ af.bad;split
  ·exact af.ret _
  ·exact af.bad
 ·exact af.bad
theorem oW (t:TypeId) (n:Nat) (ps:List (Nat×MV)):af (dR T cnt t n ps):=by
 unfold dR;split
 ·split
  ·split
   ·exact af.ret _
   ·exact af.bad
  ·split
   ·refine af.cond ?_ af.bad;split
    ·exact af.ret _
    ·exact af.bad
   ·exact af.bad
 ·exact af.bad
theorem sa (t:TypeId) (c es off k:Nat):af (eH T M cnt t c es off k):=by
 unfold eH
 repeat' split
 all_goals first | exact af.bad | exact af.cond (af.prf (af.val fun _=>af.ret _)) af.bad
theorem Er (op:UnOp) (x:MV):af (LR op x):=by
 unfold LR
 repeat' split
 all_goals first | exact af.bad | exact af.ret _ | exact af.val fun _=>af.ret _
theorem yU (s d:TypeId) (x:MV):af (lJ T M s d x):=by
 unfold lJ
 repeat' split
 all_goals first | exact af.bad | exact af.ret _ | exact af.val fun _=>af.ret _ | exact af.ask fun _=>af.ret _ | exact af.cond (af.prf (af.ask fun _=>af.ret _)) af.bad | exact af.prf (af.val fun _=>af.val fun _=>af.ret _)
theorem qG (t:TypeId) (x y:MV):af (gu P T cnt t x y):=by
 unfold gu
 repeat' split
 all_goals first | exact af.bad | exact af.cond (af.prf (af.ask fun _=>af.ask fun _=>af.prf (af.ret _))) af.bad
theorem Bg (es:Nat) (y:MV) (k:Nat→List MV→bj (MV×Dl)) (h: ∀n l,af (k n l)):af (oK M es y k):=by
 unfold oK;split
 ·exact af.prf (h _ _)
 ·exact h _ _
 ·split
  ·exact af.cond (af.prf (af.val fun _=>h _ _)) af.bad
  ·exact af.bad
 ·exact af.bad
theorem vu (ats:List TypeId) (x y:MV):af (gk P T M cnt ats x y):=by
 unfold gk;split
 ·refine af.cond ?_ af.bad;split
  ·split
   ·refine af.cond (af.ask fun _=>Bg M _ _ _ fun n l=>?_) af.bad;split
    ·exact af.prf (af.ret _)
    ·split
     ·exact af.cond (af.prf (af.val fun _=>af.val fun _=>af.ret _)) af.bad
     ·exact af.bad
    ·exact af.bad
   ·exact af.bad
  ·exact af.bad
 ·exact af.bad
theorem tu (b:Builtin) (ats:Array TypeId) (vs:List MV):af (eI P T M cnt b ats vs):=by
 unfold eI;split
 ·split
  ·unfold Gb
   repeat' split
   all_goals first | exact af.bad | exact af.ret _ | exact af.val fun _=>af.ret _
  ·exact af.bad
 ·split
  ·exact vu P T M cnt _ _ _
  ·exact af.bad
 ·split
  ·exact af.val fun _=>af.ret _
  ·exact af.bad
 ·split
  ·exact af.val fun _=>af.ret _
  ·exact af.bad
 ·exact af.bad
theorem vv (t:TypeId) (m k x:MV):af (gl P M t m k x):=by
 unfold gl;split
 ·split
  ·split
   ·refine af.cond (af.prf (af.ask fun _=>af.ask fun r=>?_)) af.bad;cases r <;> exact af.val fun _=>af.ret _
   ·exact af.bad
  ·exact af.bad
 ·exact af.bad
theorem vw (t:TypeId) (m k:MV) (ok:Bool):af (gH P T M t m k ok):=by
 unfold gH;split
 ·split
  ·split
   ·refine af.prf (af.ask fun _=>af.ask fun r=>?_);cases r
    ·exact af.ask fun _=>af.ret _
    ·exact af.ask fun _=>af.cond (af.ret _) af.bad
   ·exact af.bad
  ·exact af.bad
 ·exact af.bad
theorem xu (t:TypeId) (v:MV):af (nY T cnt t v):=by
 unfold nY;split
 ·exact af.ret _
 ·exact af.bad
theorem yV (v:MV) (b:Bool):af (lB M v b):=by
 unfold lB;split
 ·split
  ·split
   ·refine af.ask fun _=>af.val fun r=>?_
    rcases r with _ | ⟨_,_⟩ <;> exact af.ret _
   ·exact af.bad
  ·exact af.bad
 ·exact af.bad
theorem vx (t:TypeId) (ok:Bool) (v:MV):af (kO P T t ok v):=by
 unfold kO;split
 ·exact af.bad
 ·exact af.bad
 ·split
  ·exact af.cond (af.ret _) af.bad
  ·exact af.cond (af.ask fun _=>af.ret _) af.bad
 ·exact af.bad
theorem Es (o:Oper):af (iH P T E M cnt o):=by
 obtain⟨dst,op,ty,pos,after,guard⟩:=o;cases op with
 | move x=>exact af.rd iw
 | assign x=>exact af.rd iw
 | pick c a b=>
  refine af.rd fun c=>af.rd fun a=>af.rd fun b=>?_
  unfold Gc;split
  ·exact af.br (af.ret _) (af.ret _)
  ·exact af.bad
 | alloc t=>
  show af (kN T cnt t)
  unfold kN;split
  ·exact af.cond (af.ret _) af.bad
  ·exact af.bad
 | box t x=>
  refine af.rd fun v=>?_
  unfold yF;split
  ·exact af.cond (af.ret _) af.bad
  ·exact af.bad
 | build t parts=>exact af.rds fun _=>xt T _ _
 | buildSlice t n parts=>
  refine af.rds fun _=>?_
  split
  ·exact sa T M cnt _ _ _ _ _
  ·exact oW T cnt _ _ _
 | load t x=>exact af.rd fun _=>yT T M _ _
 | store t x y=>exact af.rd fun _=>af.rd fun _=>xn T M _ _ _
 | nilCheck x=>
  refine af.rd fun v=>?_
  unfold jX;split <;> first | exact af.ret _ | exact af.bad
 | binOp op t x y ty'=>exact af.rd fun _=>af.rd fun _=>Bf P T _ _ _ _ _
 | unOp op t x=>exact af.rd fun _=>Er _ _
 | convert s d x=>exact af.rd fun _=>yU T M _ _ _
 | makeInterface t x=>
  refine af.rd fun v=>?_
  unfold sW;split <;> first | exact af.bad | exact af.cond (af.ret _) af.bad
 | makeFunc fn first captured=>
  refine af.rds fun v=>?_
  unfold oL;split <;> first | exact af.bad | exact af.cond (af.ret _) af.bad
 | makeSlice t l c=>exact af.rd fun _=>af.rd fun _=>qG P T cnt _ _ _
 | slice t x lo hi mx=>
  cases mx with
  | none=>exact af.rd fun _=>af.rdo fun _=>af.rdo fun _=>vr T M _ _ _ _
  | some _=>exact af.bad
 | fieldAddr t x f=>exact af.rd fun _=>qE T _ _ _
 | field t x f=>exact af.rd fun _=>xq T _ _ _
 | indexAddr t x ix=>exact af.rd fun _=>af.rd fun _=>qF T _ _ _
 | index t x ix=>exact af.rd fun _=>af.rd fun _=>xp T _ _ _
 | extract x i=>
  refine af.rd fun v=>?_
  unfold lK
  repeat' split
  all_goals first | exact af.bad | exact af.ret _
 | makeMap t r=>
  cases r with
  | none=>exact af.ret _
  | some _=>exact af.bad
 | mapUpdate t p k x=>exact af.rd fun _=>af.rd fun _=>af.rd fun _=>vv P M _ _ _ _
 | lookup t p k ok=>exact af.rd fun _=>af.rd fun _=>vw P T M _ _ _ _
 | typeAssert x xT t ok=>exact af.rd fun _=>vx P T _ _ _
 | range t x=>exact af.rd fun _=>xu T cnt _ _
 | next x b=>exact af.rd fun _=>yV M _ _
 | call c=>
  obtain⟨callee,args,ats⟩:=c;cases callee with
  | builtin b=>exact af.rds fun _=>tu P T M cnt _ _ _
  | _=>exact af.bad
 | _=>exact af.bad
theorem yW (E:VE) (M:VM) (f:Operand) (args:List Operand):af (rI E M f args):=by
 refine af.rd fun fv=>af.rds fun vs=>?_
 split
 ·exact af.bind (kU _ _) fun _=>af.ret _
 ·exact af.bad
end
end
section
def ar (D:Dl→Prop) (x:bj (MV×Dl)):Prop:= ∀K,x.runP K→∃r δ,D δ∧K (r,δ)
section
variable {α:Type} {D:Dl→Prop}
theorem ar.ret {r:MV} {δ:Dl} (h:D δ):ar D (bj.ret (r,δ)):=fun _ hk=>⟨r,δ,h,hk⟩
theorem ar.bad:ar D bj.bad:=fun _ h=>h.elim
theorem ar.ask {o:Option α} {k:α→bj (MV×Dl)} (h: ∀a,ar D (k a)):ar D (bj.ask o k):=by
 rintro K ⟨a,_,h2⟩;exact h a K h2
theorem ar.prf {p:Prop} {d:Decidable p} {k:bj (MV×Dl)} (h:ar D k):ar D (bj.prf p d k):=by
 rintro K ⟨_,h2⟩;exact h K h2
theorem ar.br {t:Bool} {x y:bj (MV×Dl)} (hx:ar D x) (hy:ar D y):ar D (bj.br t x y):=by
 rintro K ⟨h1,h2⟩;cases t with
 | true=>exact hx K (h1 rfl)
 | false=>exact hy K (h2 rfl)
theorem ar.bind {x:bj MV} {f:MV→bj (MV×Dl)} (hs:af x) (hf: ∀a,ar D (f a)):ar D (x.bind f):=by
 intro K h;obtain⟨a,_,h2,_⟩:=hs _ h;exact hf a K h2
theorem ar.val {a:α} {k:α→bj (MV×Dl)} (h: ∀a,ar D (k a)):ar D (val a k):=ar.ask h
theorem ar.cond {b:Bool} {x y:bj (MV×Dl)} (hx:ar D x) (hy:ar D y):ar D (bif b then x else y):=by cases b <;> assumption
theorem ar.rd {e:Nat→Option MV} {x:Operand} {k:MV→bj (MV×Dl)} (h: ∀a,ar D (k a)):ar D (rd e x k):=by
 show ar D (match iV e x with | some m=>k m | none=> .bad)
 split
 ·exact h _
 ·exact ar.bad
theorem ar.rds {e:Nat→Option MV}: ∀{xs:List Operand} {k:List MV→bj (MV×Dl)},(∀a,ar D (k a))→ar D (mS e xs k)
 | [],_,h=>h _
 | _ :: _,_,h=>ar.rd fun _=>ar.rds fun _=>h _
theorem ar.rdo {e:Nat→Option MV} {x:Option Operand} {k:Option MV→bj (MV×Dl)} (h: ∀a,ar D (k a)):ar D (Jt e x k):=by
 cases x with
 | none=>exact h _
 | some x=>exact ar.rd fun _=>h _
end
abbrev DN:Dl→Prop:=fun δ=>δ= .none
abbrev DA:Dl→Prop:=fun δ=> ∃b,δ= .new b
abbrev DW (m:FM):Dl→Prop:=fun δ=>(∃b,δ= .new b)∨(∃c l,δ= .upd c l∧m c≠none)∨(∃c b,δ= .mv c b∧m c≠none)
section
variable (P:Program) (T:bB) (E:Nat→Option MV) (M:FM) (cnt:Nat)
theorem kd (m:MV):ar DN (pureA m):=ar.ret rfl
theorem oX (b:Option Bool) (op:BinOp):ar DN (vi b op):=by
 cases b with
 | none=>exact ar.bad
 | some b=>cases op <;> first | exact ar.bad | exact ar.ret rfl
theorem JF (op:BinOp) (t:TypeId) (x y:MV):ar DN (LP P T op t x y):=by
 unfold LP;split
 ·exact ar.cond (ar.prf (ar.ask fun _=>oX _ _)) ar.bad
 ·exact ar.bad
theorem Gn (op:BinOp) (t:TypeId) (yo:Operand) (x y:MV):ar DN (D0 P T op t yo x y):=by
 unfold D0;split
 ·split
  ·exact ar.cond (ar.bind (tq _ _ _ _) kd) ar.bad
  ·exact ar.bad
 ·split
  ·exact ar.bind (tr _ _ _) kd
  ·exact ar.bad
 ·split
  ·split
   ·exact ar.bind (ts _ _ _) kd
   ·exact ar.bad
  ·exact ar.bad
 ·split
  ·exact oX _ _
  ·exact ar.bad
 ·split
  ·exact oX _ _
  ·exact ar.bad
 ·split
  ·exact oX _ _
  ·exact ar.bad
 ·exact JF P T op t _ _
theorem vQ (t:TypeId) (p:MV):ar DN (gG T M t p):=by
 unfold gG;split
 ·exact ar.bad
 ·split
  ·split
   ·exact ar.cond (ar.ask fun _=>ar.ask fun _=>ar.cond (ar.ret rfl) ar.bad) ar.bad
   ·exact ar.bad
  ·exact ar.ask fun _=>ar.cond (ar.ret rfl) ar.bad
  ·exact ar.bad
theorem tw (t:TypeId) (p:MV) (f:Nat):ar DN (gq T t p f):=by
 unfold gq
 repeat' split
 all_goals first | exact ar.bad | exact ar.ret rfl
theorem tz (t:TypeId) (p j:MV):ar DN (gr T t p j):=by
 unfold gr
 repeat' split
 all_goals first | exact ar.bad | exact ar.ask fun _=>ar.cond (ar.ret rfl) ar.bad | exact ar.cond (ar.ask fun _=>ar.ret rfl) ar.bad | exact ar.ask fun _=>ar.ret rfl
theorem Bh (t:TypeId) (p j:MV):ar DN (nU T t p j):=by
 unfold nU
 repeat' split
 all_goals first | exact ar.bad | exact ar.ask fun _=>ar.ret rfl | exact ar.cond (ar.ask fun _=>ar.cond (ar.ret rfl) ar.bad) ar.bad
theorem Bi (t:TypeId) (p:MV) (f:Nat):ar DN (nV T t p f):=by
 unfold nV
 repeat' split
 all_goals first | exact ar.bad | exact ar.cond (ar.ret rfl) ar.bad
theorem tA (t:TypeId) (x:MV) (lo hi:Option MV):ar DN (nW T t x lo hi):=by
 unfold nW
 repeat' split
 all_goals first | exact ar.bad | exact ar.ask fun _=>ar.val fun _=>ar.ret rfl | exact ar.ask fun _=>ar.prf (ar.val fun _=>ar.val fun _=>ar.ret rfl) | exact ar.cond (ar.ask fun _=>ar.val fun _=>ar.ret rfl) ar.bad | exact ar.ask fun _=>ar.ret rfl
abbrev DR (m:FM):Dl→Prop:=fun δ=>δ= .none∨∃l,δ= .bump l∧∀c∈l,m c.1≠none
theorem ar.weak {D D':Dl→Prop} {x:bj (MV×Dl)} (h:ar D x) (hd: ∀δ,D δ→D' δ):ar D' x:=fun K hk=>by
 obtain⟨r,δ,h1,h2⟩:=h K hk;exact⟨r,δ,hd δ h1,h2⟩
theorem yX (t:TypeId) (x:MV) (lo hi:Option MV):ar (DR M) (fg T M t x lo hi):=by
 unfold fg;split
 ·split
  ·rename_i b hb;split
   ·exact ar.cond (ar.ask fun _=>ar.val fun _=>ar.val fun _=>ar.ret (.inr ⟨_,rfl,fun c hc=>by simp at hc;subst hc;rw [hb];simp⟩)) ar.bad
   ·exact ar.bad
  ·exact ar.bad
 ·exact(tA T _ _ _ _).weak fun _ h=> .inl h
theorem Bj (t:TypeId) (ps:List (Nat×MV)):ar DN (nX T t ps):=by
 unfold nX;split
 ·refine ar.cond ?_ ar.bad;split
  ·exact ar.ret rfl
  ·exact ar.bad
 ·refine ar.cond ?_ ar.bad;split
  ·exact ar.ret rfl
  ·exact ar.bad
 ·exact ar.bad
theorem JG (op:UnOp) (x:MV):ar DN (LR op x):=by
 unfold LR
 repeat' split
 all_goals first | exact ar.bad | exact ar.ret rfl | exact ar.val fun _=>ar.ret rfl
theorem vR (s d:TypeId) (x:MV):ar DN (lJ T M s d x):=by
 unfold lJ
 repeat' split
 all_goals first | exact ar.bad | exact ar.ret rfl | exact ar.val fun _=>ar.ret rfl | exact ar.ask fun _=>ar.ret rfl | exact ar.cond (ar.prf (ar.ask fun _=>ar.ret rfl)) ar.bad | exact ar.prf (ar.val fun _=>ar.val fun _=>ar.ret rfl)
theorem gm (t:TypeId) (n:Nat) (ps:List (Nat×MV)):ar DA (dR T cnt t n ps):=by
 unfold dR;split
 ·split
  ·split
   ·exact ar.ret ⟨_,rfl⟩
   ·exact ar.bad
  ·split
   ·refine ar.cond ?_ ar.bad;split
    ·exact ar.ret ⟨_,rfl⟩
    ·exact ar.bad
   ·exact ar.bad
 ·exact ar.bad
theorem vy (t:TypeId) (c es off k:Nat):ar (DW M) (eH T M cnt t c es off k):=by
 unfold eH;split
 ·split
  ·split
   ·rename_i b hb;exact ar.cond (ar.prf (ar.val fun _=>ar.ret (.inr (.inr ⟨_,_,rfl,by rw [hb];simp⟩)))) ar.bad
   ·exact ar.bad
  ·exact ar.bad
 ·exact ar.bad
theorem tB (t:TypeId) (x y:MV):ar DA (gu P T cnt t x y):=by
 unfold gu
 repeat' split
 all_goals first | exact ar.bad | exact ar.cond (ar.prf (ar.ask fun _=>ar.ask fun _=>ar.prf (ar.ret ⟨_,rfl⟩))) ar.bad
theorem Bk (t:TypeId) (p v:MV):ar (DW M) (fZ T M t p v):=by
 unfold fZ;split
 ·exact ar.bad
 ·split
  ·split
   ·rename_i b hb;exact ar.cond (ar.prf (ar.ask fun _=>ar.ask fun _=>ar.val fun _=>ar.ret (.inr (.inl ⟨_,_,rfl,by rw [hb];simp⟩)))) ar.bad
   ·exact ar.bad
  ·exact ar.bad
theorem yY (t:TypeId) (m k x:MV):ar (DW M) (gl P M t m k x):=by
 unfold gl;split
 ·split
  ·rename_i b hb;split
   ·refine ar.cond (ar.prf (ar.ask fun _=>ar.ask fun r=>?_)) ar.bad;cases r <;> exact ar.val fun _=>ar.ret (.inr (.inl ⟨_,_,rfl,by rw [hb];simp⟩))
   ·exact ar.bad
  ·exact ar.bad
 ·exact ar.bad
theorem rL (t:TypeId) (m k:MV) (ok:Bool):ar DN (gH P T M t m k ok):=by
 unfold gH;split
 ·split
  ·split
   ·refine ar.prf (ar.ask fun _=>ar.ask fun r=>?_);cases r
    ·exact ar.ask fun _=>ar.ret rfl
    ·exact ar.ask fun _=>ar.cond (ar.ret rfl) ar.bad
   ·exact ar.bad
  ·exact ar.bad
 ·exact ar.bad
theorem Bl (t:TypeId) (v:MV):ar DA (nY T cnt t v):=by
 unfold nY;split
 ·exact ar.ret ⟨_,rfl⟩
 ·exact ar.bad
theorem Et (v:MV) (b:Bool):ar (DW M) (lB M v b):=by
 unfold lB;split
 ·split
  ·rename_i bb hb;split
   ·refine ar.ask fun _=>ar.val fun r=>?_
    rcases r with _ | ⟨_,_⟩
    ·exact ar.ret (.inr (.inl ⟨_,_,rfl,by rw [hb];simp⟩))
    ·exact ar.ret (.inr (.inl ⟨_,_,rfl,by rw [hb];simp⟩))
   ·exact ar.bad
  ·exact ar.bad
 ·exact ar.bad
theorem yZ (t:TypeId) (ok:Bool) (v:MV):ar DN (kO P T t ok v):=by
 unfold kO;split
 ·exact ar.bad
 ·exact ar.bad
 ·split
  ·exact ar.cond (ar.ret rfl) ar.bad
  ·exact ar.cond (ar.ask fun _=>ar.ret rfl) ar.bad
 ·exact ar.bad
theorem Gp (D:Dl→Prop) (es:Nat) (y:MV) (k:Nat→List MV→bj (MV×Dl)) (h: ∀n l,ar D (k n l)):ar D (oK M es y k):=by
 unfold oK;split
 ·exact ar.prf (h _ _)
 ·exact h _ _
 ·split
  ·exact ar.cond (ar.prf (ar.val fun _=>h _ _)) ar.bad
  ·exact ar.bad
 ·exact ar.bad
theorem y5 (ats:List TypeId) (x y:MV):ar (DW M) (gk P T M cnt ats x y):=by
 unfold gk;split
 ·refine ar.cond ?_ ar.bad;split
  ·split
   ·refine ar.cond (ar.ask fun _=>Gp M _ _ _ _ fun n l=>?_) ar.bad;split
    ·exact ar.prf (ar.ret (.inl ⟨_,rfl⟩))
    ·split
     ·rename_i b hb;exact ar.cond (ar.prf (ar.val fun _=>ar.val fun _=>ar.ret (.inr (.inr ⟨_,_,rfl,by rw [hb];simp⟩)))) ar.bad
     ·exact ar.bad
    ·exact ar.bad
   ·exact ar.bad
  ·exact ar.bad
 ·exact ar.bad
def DK (m:FM):Nat→Dl→Prop
 | 0=>DN
 | 1=>DA
 | 2=>DR m
 | _=>DW m
theorem CJ (o:Oper):ar (DK M (qq o)) (iH P T E M cnt o):=by
  obtain⟨dst,op,ty,pos,after,guard⟩:=o;cases op with
  | move x=>exact ar.rd kd
  | assign x=>exact ar.rd kd
  | pick c a b=>
    refine ar.rd fun c=>ar.rd fun a=>ar.rd fun b=>?_
    unfold Gc;split
    · exact ar.br (ar.ret rfl) (ar.ret rfl)
    · exact ar.bad
  | alloc t=>
    show ar DA (kN T cnt t)
    unfold kN;split
    · exact ar.cond (ar.ret ⟨_,rfl⟩) ar.bad
    · exact ar.bad
  | box t x=>
    refine ar.rd fun v=>?_
    unfold yF;split
    · exact ar.cond (ar.ret ⟨_,rfl⟩) ar.bad
    · exact ar.bad
  | build t parts=>exact ar.rds fun _=>Bj T _ _
  | buildSlice t n parts=>
    match n with
    | 0=>exact ar.rds fun _=>gm T cnt _ _ _
    | 1=>
      refine ar.rds fun _=>?_
      split
      · exact vy T M cnt _ _ _ _ _
      · exact(gm T cnt _ _ _).weak fun δ hδ=> .inl hδ
    | _ + 2=>exact ar.rds fun _=>gm T cnt _ _ _
  | load t x=>exact ar.rd fun _=>(vQ T M _ _).weak fun _ h=> .inl h
  | store t x y=>exact ar.rd fun _=>ar.rd fun _=>Bk T M _ _ _
  | nilCheck x=>
    refine ar.rd fun v=>?_
    unfold jX;split <;> first | exact ar.ret rfl | exact ar.bad
  | binOp op t x y ty'=>exact ar.rd fun _=>ar.rd fun _=>Gn P T _ _ _ _ _
  | unOp op t x=>exact ar.rd fun _=>JG _ _
  | convert s d x=>exact ar.rd fun _=>(vR T M _ _ _).weak fun _ h=> .inl h
  | makeInterface t x=>
    refine ar.rd fun v=>?_
    unfold sW;split <;> first | exact ar.bad | exact ar.cond (ar.ret rfl) ar.bad
  | makeFunc fn first captured=>
    refine ar.rds fun v=>?_
    unfold oL;split <;> first | exact ar.bad | exact ar.cond (ar.ret rfl) ar.bad
  | makeSlice t l c=>exact ar.rd fun _=>ar.rd fun _=>tB P T cnt _ _ _
  | slice t x lo hi mx=>
    cases mx with
    | none=>exact ar.rd fun _=>ar.rdo fun _=>ar.rdo fun _=>yX T M _ _ _ _
    | some _=>exact ar.bad
  | fieldAddr t x f=>exact ar.rd fun _=>tw T _ _ _
  | field t x f=>exact ar.rd fun _=>Bi T _ _ _
  | indexAddr t x ix=>exact ar.rd fun _=>ar.rd fun _=>tz T _ _ _
  | index t x ix=>exact ar.rd fun _=>ar.rd fun _=>Bh T _ _ _
  | extract x i=>
    refine ar.rd fun v=>?_
    unfold lK
    repeat' split
    all_goals first | exact ar.bad | exact ar.ret rfl
  | makeMap t r=>
    cases r with
    | none=>exact ar.ret ⟨_,rfl⟩
    | some _=>exact ar.bad
  | mapUpdate t p k x=>exact ar.rd fun _=>ar.rd fun _=>ar.rd fun _=>yY P M _ _ _ _
  | lookup t p k ok=>exact ar.rd fun _=>ar.rd fun _=>(rL P T M _ _ _ _).weak fun _ h=> .inl h
  | typeAssert x xT t ok=>exact ar.rd fun _=>yZ P T _ _ _
  | range t x=>exact ar.rd fun _=>Bl T cnt _ _
  | next x b=>exact ar.rd fun _=>Et M _ _
  | call c=>
    obtain⟨callee,args,ats⟩:=c;cases callee with
    | builtin b=>
      refine ar.rds fun vs=>?_
      cases b <;> first
        | exact ar.bad
        | (show ar DN _
           simp only [eI]
           split
           · unfold Gb
             repeat' split
             all_goals first | exact ar.bad | exact ar.ret rfl | exact ar.val fun _=>ar.ret rfl
           · exact ar.bad)
        | (show ar (DW M) _
           simp only [eI]
           split
           · exact y5 P T M cnt _ _ _
           · exact ar.bad)
        | (show ar DN _
           simp only [eI]
           split
           · exact ar.val fun _=>ar.ret rfl
           · exact ar.bad)
    | _=>exact ar.bad
  | _=>exact ar.bad
end
end
section
section
variable {P:Program} {T:bB} {e e':Nat→Option MV} {m m':FM} {cnt:Nat} {A:Type}
def Ag (e e':Nat→Option MV) (l:List Operand):Prop:= ∀x∈l,iV e x=iV e' x
theorem dB {x:Operand} {k:MV→bj A} (h:iV e x=iV e' x):rd e x k=rd e' x k:=by unfold rd;rw [h]
theorem oa: ∀{l:List Operand} {k:List MV→bj A},Ag e e' l→mS e l k=mS e' l k
 | [],_,_=>rfl
 | x :: l,k,h=>by
  show rd e x _=rd e' x _
  rw [dB (h x sm)]
  have:(fun m=>mS e l fun r=>k (m :: r))=fun m=>mS e' l fun r=>k (m :: r):=funext fun m=>oa fun y hy=>h y (by simp [hy])
  rw [this]
theorem Gq {x:Option Operand} {k:Option MV→bj A} (h:Ag e e' x.toList):Jt e x k=Jt e' x k:=by
 cases x with
 | none=>rfl
 | some x=>exact dB (h x sm)
theorem Gr {x:Operand} (h: ∀t,x= .tmp t→e t=e' t):iV e x=iV e' x:=by
 cases x with
 | tmp t=>exact h t rfl
 | _=>rfl
theorem JH {o:Oper} (h:Ag e e' o.op.operands.toList):iH P T e m cnt o=iH P T e' m cnt o:=by
 obtain⟨dst,op,ty,pos,after,guard⟩:=o;replace h:Ag e e' op.operands.toList:=h;cases op with
 | move x=>exact dB (h x (by simp [Op.operands]))
 | assign x=>exact dB (h x (by simp [Op.operands]))
 | pick c a b=>
  show rd e c _=rd e' c _
  rw [dB (h c (by simp [Op.operands]))];congr 1;funext c;rw [dB (h a (by simp [Op.operands]))];congr 1;funext a;rw [dB (h b (by simp [Op.operands]))]
 | alloc t=>rfl
 | box t x=>exact dB (h x (by simp [Op.operands]))
 | build t parts=>exact oa fun x hx=>h x (by simpa [Op.operands] using hx)
 | buildSlice t n parts=>exact oa fun x hx=>h x (by simpa [Op.operands] using hx)
 | load t x=>exact dB (h x (by simp [Op.operands]))
 | store t x y=>
  show rd e x _=rd e' x _
  rw [dB (h x (by simp [Op.operands]))];congr 1;funext c;rw [dB (h y (by simp [Op.operands]))]
 | nilCheck x=>exact dB (h x (by simp [Op.operands]))
 | binOp op t x y ty'=>
  show rd e x _=rd e' x _
  rw [dB (h x (by simp [Op.operands]))];congr 1;funext c;rw [dB (h y (by simp [Op.operands]))]
 | unOp op t x=>exact dB (h x (by simp [Op.operands]))
 | convert s d x=>exact dB (h x (by simp [Op.operands]))
 | makeInterface t x=>exact dB (h x (by simp [Op.operands]))
 | makeFunc fn first captured=>exact oa fun x hx=>h x (by simp [Op.operands];exact .inr (by simpa using hx))
 | makeSlice t x y=>
  show rd e x _=rd e' x _
  rw [dB (h x (by simp [Op.operands]))];congr 1;funext c;rw [dB (h y (by simp [Op.operands]))]
 | slice t x lo hi mx=>
  cases mx with
  | none=>
   show rd e x _=rd e' x _
   rw [dB (h x (by simp [Op.operands]))];congr 1;funext c;rw [Gq fun y hy=>h y (by simp [Op.operands];simp at hy;simp [hy])];congr 1;funext c;rw [Gq fun y hy=>h y (by simp [Op.operands];simp at hy;simp [hy])]
  | some _=>rfl
 | fieldAddr t x f=>exact dB (h x (by simp [Op.operands]))
 | field t x f=>exact dB (h x (by simp [Op.operands]))
 | indexAddr t x y=>
  show rd e x _=rd e' x _
  rw [dB (h x (by simp [Op.operands]))];congr 1;funext c;rw [dB (h y (by simp [Op.operands]))]
 | index t x y=>
  show rd e x _=rd e' x _
  rw [dB (h x (by simp [Op.operands]))];congr 1;funext c;rw [dB (h y (by simp [Op.operands]))]
 | extract x i=>exact dB (h x (by simp [Op.operands]))
 | makeMap t r=>rfl
 | mapUpdate t p k x=>
  show rd e p _=rd e' p _
  rw [dB (h p (by simp [Op.operands]))];congr 1;funext c;rw [dB (h k (by simp [Op.operands]))];congr 1;funext c;rw [dB (h x (by simp [Op.operands]))]
 | lookup t p k ok=>
  show rd e p _=rd e' p _
  rw [dB (h p (by simp [Op.operands]))];congr 1;funext c;rw [dB (h k (by simp [Op.operands]))]
 | typeAssert x xT t ok=>exact dB (h x (by simp [Op.operands]))
 | range t x=>exact dB (h x (by simp [Op.operands]))
 | next x b=>exact dB (h x (by simp [Op.operands]))
 | call c=>
  obtain⟨callee,args,ats⟩:=c;cases callee with
  | builtin b=>exact oa fun x hx=>h x (by simp [Op.operands,Call.operands];simpa using hx)
  | _=>rfl
 | _=>rfl
theorem Eu {o:Oper} (h:c₄ (qq o) 1=true):iH P T e m cnt o=iH P T e m' cnt o:=by
 obtain⟨dst,op,ty,pos,after,guard⟩:=o;cases op with
 | call c=>
  obtain⟨callee,args,ats⟩:=c;cases callee with
  | builtin b=>cases b <;> first | rfl | (cases h;done)
  | _=>rfl
 | load t x=>cases h
 | store t x y=>cases h
 | convert s d x=>cases h
 | slice t x lo hi mx=>cases h
 | mapUpdate t p k x=>cases h
 | next x b=>cases h
 | lookup t p k ok=>cases h
 | buildSlice t n parts=>
  match n,h with
  | 0,_=>rfl
  | 1,h=>cases h
  | _ + 2,_=>rfl
 | _=>rfl
theorem y7 {o:Oper} (h:qq o=2) (hs:fj m m') {K:MV×Dl→Prop} (hr:(iH P T e m cnt o).runP K):(iH P T e m' cnt o).runP K:=by
 have step: ∀{x:Operand} {k k':MV→bj (MV×Dl)},(∀v,(k v).runP K→(k' v).runP K)→(rd e x k).runP K→(rd e x k').runP K:=by
  intro x k k' hk h;unfold rd at h ⊢;split at h
  ·exact hk _ h
  ·exact h.elim
 obtain⟨dst,op,ty,pos,after,guard⟩:=o;cases op with
 | call c=>
  obtain⟨callee,args,ats⟩:=c;cases callee with
  | builtin b=>cases b <;> cases h
  | _=>exact hr
 | load t x=>
  refine step (fun p hp=>?_) hr;unfold gG at hp ⊢;split at hp
  ·exact hp.elim
  ·split at hp
   ·split at hp
    ·rename_i b hb;obtain⟨b',h1,h2,h3,h4,h5⟩:=hs _ _ hb;simp only [h1,h2,h4];exact hp
    ·exact hp.elim
   ·exact hp
   ·exact hp.elim
 | slice t x lo hi mx=>
  have stepo: ∀{x:Option Operand} {k k':Option MV→bj (MV×Dl)},(∀v,(k v).runP K→(k' v).runP K)→(Jt e x k).runP K→(Jt e x k').runP K:=by
   intro x k k' hk h;cases x with
   | none=>exact hk _ h
   | some x=>exact step (fun v hv=>hk _ hv) h
  cases mx with
  | some _=>exact hr
  | none=>
  refine step (fun p hp=>stepo (fun lo hp=>stepo (fun hi hp=>?_) hp) hp) hr;unfold fg at hp ⊢;split at hp
  ·split at hp
   ·rename_i b hb;obtain⟨b',h1,h2,h3,h4,h5⟩:=hs _ _ hb;obtain⟨ty',es',row',pe',l'⟩:=b';simp only at h2 h3 h4 h5;subst h2;simp only [h1];exact hp
   ·exact hp.elim
  ·exact hp
 | lookup t p k ok=>
  refine step (fun p hp=>step (fun q hp=>?_) hp) hr;unfold gH at hp ⊢;split at hp
  ·split at hp
   ·rename_i b hb;obtain⟨b',h1,h2,h3,h4,h5⟩:=hs _ _ hb;simp only [h1,h2];exact hp
   ·exact hp.elim
  ·exact hp.elim
 | convert s d x=>
  refine step (fun p hp=>?_) hr;unfold lJ at hp ⊢;split at hp
  ·exact hp
  ·exact hp
  ·exact hp
  ·split at hp
   ·rename_i b ht hb;obtain⟨b',h1,h2,h3,h4,h5⟩:=hs _ _ hb;obtain⟨ty',es',row',pe',l'⟩:=b';simp only at h2 h3 h4 h5;subst h2;subst h4;simp only [ht,h1];exact hp
   ·exact hp.elim
  ·exact hp
  ·exact hp.elim
 | buildSlice t n parts=>
  match n,h with
  | 0,h=>cases h
  | 1,h=>cases h
  | _ + 2,h=>cases h
 | _=>cases h
mutual
theorem y9 (hs:fj m m'): ∀{p:MV} {K:MV×List (Nat×Nat)→Prop},(dA m p).runP K→(dA m' p).runP fun x=>K x∧∀c∈x.2,m c.1≠none
 | .ms c es off n,K,h=>by
  simp only [dA] at h ⊢
  split at h
  ·rename_i b hb
   obtain⟨b',h1,h2,h3,h4,h5⟩:=hs _ _ hb
   obtain⟨ty',es',row',pe',l'⟩:=b'
   simp only at h2 h3 h4 h5
   subst h2;subst h4;subst h3
   simp only [h1]
   split at h
   ·obtain⟨a1,l,a2,h⟩:=h
    exact⟨a1,l,a2,h,fun c hc=>by simp at hc;subst hc;rw [hb];simp⟩
   ·exact h.elim
  ·exact h.elim
 | .st l,K,h=>by simp only [dA] at h ⊢;exact dE (ke hs (bj.bind_runP.1 h)) fun _ h=>h
 | .fn f l,K,h=>by simp only [dA] at h ⊢;exact dE (ke hs (bj.bind_runP.1 h)) fun _ h=>h
 | .ifc t v,K,h=>by simp only [dA] at h ⊢;exact ir (y9 hs (bj.bind_runP.1 h)) fun _ h=>h
 | .ptr c es k fo path,K,h=>by
  simp only [dA] at h ⊢
  split at h
  ·rename_i b hb
   obtain⟨b',h1,h2,h3,h4,h5⟩:=hs _ _ hb
   obtain⟨ty',es',row',pe',l'⟩:=b'
   simp only at h2 h3 h4 h5
   subst h2;subst h4;subst h3
   simp only [h1]
   cases he:a₂ b.es es with
   | false=>rw [he] at h;exact h.elim
   | true=>
    rw [he] at h
    obtain⟨v,q1,h⟩:=h
    cases hf:v.idFree with
    | false=>rw [hf] at h;exact h.elim
    | true=>rw [hf] at h;exact⟨v,q1,by simp only [hf];exact⟨h,fun c hc=>by simp at hc;subst hc;rw [hb];simp⟩⟩
  ·exact h.elim
 | .tup _,K,h=>by simp only [dA] at h;exact h.elim
 | .undef,K,h=>by simp only [dA] at h;exact h.elim
 | .mp _,K,h=>by simp only [dA] at h;exact h.elim
 | .mpv ..,K,h=>by simp only [dA] at h;exact h.elim
 | .int ..,K,h=>by simp only [dA] at h ⊢;exact⟨h,fun _ hc=>nomatch hc⟩
 | .bool ..,K,h=>by simp only [dA] at h ⊢;exact⟨h,fun _ hc=>nomatch hc⟩
 | .str ..,K,h=>by simp only [dA] at h ⊢;exact⟨h,fun _ hc=>nomatch hc⟩
 | .nilp,K,h=>by simp only [dA] at h ⊢;exact⟨h,fun _ hc=>nomatch hc⟩
 | .gp ..,K,h=>by simp only [dA] at h ⊢;exact⟨h,fun _ hc=>nomatch hc⟩
 | .ep ..,K,h=>by simp only [dA] at h ⊢;exact⟨h,fun _ hc=>nomatch hc⟩
 | .sl ..,K,h=>by simp only [dA] at h ⊢;exact⟨h,fun _ hc=>nomatch hc⟩
 | .nils,K,h=>by simp only [dA] at h ⊢;exact⟨h,fun _ hc=>nomatch hc⟩
 | .nilf,K,h=>by simp only [dA] at h ⊢;exact⟨h,fun _ hc=>nomatch hc⟩
 | .nili,K,h=>by simp only [dA] at h ⊢;exact⟨h,fun _ hc=>nomatch hc⟩
 | .arr ..,K,h=>by simp only [dA] at h ⊢;exact⟨h,fun _ hc=>nomatch hc⟩
theorem ke (hs:fj m m'): ∀{l:List MV} {K:List MV×List (Nat×Nat)→Prop},(gg m l).runP K→(gg m' l).runP fun x=>K x∧∀c∈x.2,m c.1≠none
 | [],K,h=>⟨h,fun _ hc=>nomatch hc⟩
 | q :: l,K,h=>by
  simp only [gg] at h ⊢
  refine ir (y9 hs (bj.bind_runP.1 h)) fun x hx=>?_
  refine dE (ke hs (bj.bind_runP.1 hx.1)) fun y hy=>⟨hy.1,fun c hc=>?_⟩
  rcases b₅.1 hc with hc | hc
  ·exact hx.2 c hc
  ·exact hy.2 c hc
end
end
end
section
section
variable (Pg:Program) (T:bB) (ents:List FuncId) (G:GS)
def gJ (e:Nat→Option MV) (m:FM) (f:Operand) (args:List Operand):bj (FuncId×List MV×List (Nat×Nat)):=
 rd e f fun fv=>mS e args fun vs=>match fv with
  | .fn f0 caps=>(gg m (vs ++ caps)).bind fun r=> .ret (f0,r.1,r.2)
  | _=> .bad
def kV (o:Oper) (e:Nat→Option MV) (m:FM) (n:Nat) (r:MV) (δ:Dl):Prop:=match o.op with
 | .call c=>match c.callee with
  | .value f=>(gJ e m f c.args.toList).runP fun x=>ents.contains x.1=true∧aE Pg G x.1 x.2.1 r∧δ= .bump x.2.2∧∀c∈x.2.2,m c.1≠none
  | _=>(iH Pg T e m n o).runP fun x=>x=(r,δ)
 | _=>(iH Pg T e m n o).runP fun x=>x=(r,δ)
def Bm (ops:Array Oper) (o:Oper) (e:Nat→Option MV):Option Bool:=match o.guard with
 | none=>some true
 | some (j,want)=>match (ops[j]?).bind (·.dst) with
  | none=>none
  | some s=>match e s with
   | some (.bool t)=>some (t == want)
   | some .undef=>some false
   | _=>none
def nE (ops:Array Oper) (o:Oper) (e:Nat→Option MV) (m:FM) (n:Nat) (r:MV) (δ:Dl):Prop:=
 ∃b,Bm ops o e=some b∧(b=true→kV Pg T ents G o e m n r δ)∧(b=false→r= .undef∧δ= .none)
def kW (dst:Option Tmp) (r:MV) (e:Nat→Option MV):Nat→Option MV:=match dst with
 | none=>e
 | some d=>aO e d r
end
section
variable {Pg:Program} {T:bB} {ents:List FuncId} {G:GS} {ops:Array Oper} {o:Oper} {e e':Nat→Option MV} {m m':FM} {n:Nat} {r:MV} {δ:Dl}
theorem Ev {f:Operand} {args:List Operand} (h1:iV e f=iV e' f) (h2:Ag e e' args):gJ e m f args=gJ e' m f args:=by
 unfold gJ;rw [dB h1];congr 1;funext v;rw [oa h2]
theorem Gs (h:Ag e e' o.op.operands.toList):kV Pg T ents G o e m n r δ→kV Pg T ents G o e' m n r δ:=by
 have hp:iH Pg T e m n o=iH Pg T e' m n o:=JH h;unfold kV;split
 ·rename_i c hc;rw [hc] at h;split
  ·rename_i f hf;intro hr;have:=Ev (m:=m) (args:=c.args.toList) (h f (by simp [Op.operands,Call.operands,hf])) fun x hx=>h x (by simp [Op.operands,Call.operands,hf];exact .inr (by simpa using hx))
   rw [← this];exact hr
  ·rw [hp];exact id
 ·rw [hp];exact id
theorem Bn (h:c₄ (qq o) 1=true):kV Pg T ents G o e m n r δ→kV Pg T ents G o e m' n r δ:=by
 have hp:iH Pg T e m n o=iH Pg T e m' n o:=Eu h;unfold kV;split
 ·rename_i c hc;split
  ·rename_i f hf;simp [qq,hc,hf] at h
  ·rw [hp];exact id
 ·rw [hp];exact id
theorem Ew (h:qq o=2) (hs:fj m m'):kV Pg T ents G o e m n r δ→kV Pg T ents G o e m' n r δ:=by
 unfold kV;split
 ·rename_i c hc;split
  ·rename_i f hf;intro hr;unfold gJ at hr ⊢;unfold rd at hr ⊢;split at hr
   ·rename_i v hv;generalize c.args.toList=az at hr;have key: ∀(az:List Operand) (k k':List MV→bj (FuncId×List MV×List (Nat×Nat))) (K K':FuncId×List MV×List (Nat×Nat)→Prop),(∀vs,(k vs).runP K→(k' vs).runP K')→(mS e az k).runP K→(mS e az k').runP K':=by
     intro az
     induction az with
     | nil=>intro k k' K K' hk h;exact hk _ h
     | cons x az ih=>
      intro k k' K K' hk h;unfold mS rd at h ⊢;split at h
      ·exact ih _ _ K K' (fun vs h=>hk _ h) h
      ·exact h.elim
    refine key az _ _ _ _ (fun vs hk=>?_) hr;split at hk
    ·refine dE (ke hs (bj.bind_runP.1 hk)) fun x hx=>?_
     obtain⟨⟨h1,h2,h3,_⟩,h4⟩:=hx;refine⟨h1,h2,h3,fun c hc=>?_⟩;cases hb:m c.1 with
     | none=>exact absurd hb (h4 c hc)
     | some b=>
      obtain⟨b',h5,_⟩:=hs _ _ hb;rw [h5];simp
    ·exact hk.elim
   ·exact hr.elim
  ·exact fun hr=>y7 h hs hr
 ·exact fun hr=>y7 h hs hr
def DL (m:FM):Nat→Dl→Prop
 | 0,δ=>δ= .none
 | 1,δ=>δ= .none∨∃b,δ= .new b
 | 2,δ=>δ= .none∨∃l,δ= .bump l∧∀c∈l,m c.1≠none
 | _,_=>True
theorem Gt (h:kV Pg T ents G o e m n r δ):DL m (qq o) δ:=by
 have hp:(iH Pg T e m n o).runP (fun x=>x=(r,δ))→DL m (qq o) δ:=by
  intro h;obtain⟨r',δ',h1,h2⟩:=CJ Pg T e m n o _ h;injection h2 with h2 h3
  subst h3;generalize qq o=k at h1
  match k,h1 with
  | 0,h1=>exact h1
  | 1,h1=>exact .inr h1
  | 2,h1=>exact h1
  | _ + 3,h1=>exact trivial
 unfold kV at h;split at h
 ·rename_i c hc;split at h
  ·rename_i f hf;have hk:qq o=2:=by simp [qq,hc,hf]
   rw [hk];unfold gJ rd at h;split at h
   ·have key: ∀(az:List Operand) (k:List MV→bj (FuncId×List MV×List (Nat×Nat))) (K:FuncId×List MV×List (Nat×Nat)→Prop),(mS e az k).runP K→∃vs,(k vs).runP K:=by
     intro az
     induction az with
     | nil=>intro k K h;exact⟨_,h⟩
     | cons x az ih=>
      intro k K h;unfold mS rd at h;split at h
      ·obtain⟨vs,h⟩:=ih _ K h;exact⟨_,h⟩
      ·exact h.elim
    obtain⟨vs,h⟩:=key _ _ _ h;split at h
    ·obtain⟨_,x,_,h⟩:=gS (bj.bind_runP.1 h);obtain⟨h1,h2,h3,h4⟩:=h;exact .inr ⟨_,h3,h4⟩
    ·exact h.elim
   ·exact h.elim
  ·exact hp h
 ·exact hp h
theorem tC (h:nE Pg T ents G ops o e m n r δ):DL m (qq o) δ:=by
 obtain⟨b,h1,h2,h3⟩:=h;cases b with
 | true=>exact Gt (h2 rfl)
 | false=>
  rw [(h3 rfl).2];generalize qq o=k
  match k with
  | 0=>exact rfl
  | 1=>exact .inl rfl
  | 2=>exact .inl rfl
  | _ + 3=>exact trivial
theorem gV (h:c₄ (qq o) 1=true):nE Pg T ents G ops o e m n r δ→nE Pg T ents G ops o e m' n r δ:=by
 rintro⟨b,h1,h2,h3⟩;exact⟨b,h1,fun hb=>Bn h (h2 hb),h3⟩
theorem kf (h:qq o=2) (hs:fj m m'):nE Pg T ents G ops o e m n r δ→nE Pg T ents G ops o e m' n r δ:=by
 rintro⟨b,h1,h2,h3⟩;exact⟨b,h1,fun hb=>Ew h hs (h2 hb),h3⟩
theorem tD (h: ∀t∈o.looksAt ops,e t=e' t):nE Pg T ents G ops o e m n r δ→nE Pg T ents G ops o e' m n r δ:=by
 rintro⟨b,h1,h2,h3⟩;refine⟨b,?_,fun hb=>Gs (fun x hx=>Gr fun t ht=>h t ?_) (h2 hb),h3⟩
 ·rw [← h1];unfold Bm;split
  ·rfl
  ·rename_i j want hg;split
   ·rfl
   ·rename_i s hs;rw [h s (by
     unfold Oper.looksAt;rw [hg];simp [hs])]
 ·subst ht;unfold Oper.looksAt;refine b₅.2 (.inl ?_);rw [List.mem_filterMap];exact⟨_,hx,rfl⟩
end
end
section
mutual
def numsV:MV→List Nat
 | .ptr c _ _ _ _=> [c]
 | .ms c _ _ _=> [c]
 | .mp c=> [c]
 | .st l=>numsVs l
 | .fn _ l=>numsVs l
 | .tup l=>numsVs l
 | .ifc _ v=>numsV v
 | _=> []
def numsVs:List MV→List Nat
 | [] => []
 | m :: l=>numsV m ++ numsVs l
end
def numsO (e:Nat→Option MV):List Operand→List Nat
 | [] => []
 | x :: l=>(match iV e x with | some v=>numsV v | none=> []) ++ numsO e l
section
variable {P:Program} {T:bB} {e:Nat→Option MV} {m m':FM} {cnt:Nat} {A:Type}
theorem iJ {x:Operand} {k k':MV→bj A} (h: ∀v,iV e x=some v→k' v=k v):rd e x k'=rd e x k:=by
 unfold rd;cases hx:iV e x with
 | none=>rfl
 | some v=>exact h v hx
theorem xv: ∀{l:List Operand} {k k':List MV→bj A},(∀vs,l.map (iV e)=vs.map some→k' vs=k vs)→mS e l k'=mS e l k
 | [],_,_,h=>h [] rfl
 | x :: l,k,k',h=>by
  show rd e x _=rd e x _
  exact iJ fun v hv=>xv fun vs hvs=>h (v :: vs) (by simp [hv,hvs])
theorem jk: ∀{l:List Operand} {vs:List MV},l.map (iV e)=vs.map some→numsO e l=numsVs vs
 | [],[],_=>rfl
 | x :: l,v :: vs,h=>by
  simp only [c₅,List.cons.injEq] at h
  simp only [numsO,numsVs,h.1,jk h.2]
 | [],_ :: _,h=>by simp at h
 | _ :: _,[],h=>by simp at h
theorem oc: ∀(l r:List MV),numsVs (l ++ r)=numsVs l ++ numsVs r
 | [],r=>rfl
 | m :: l,r=>by simp [numsVs,oc l r]
abbrev vd (m' m:FM) (S:List Nat):Prop:= ∀c∈S,m' c=m c
mutual
theorem CK: ∀{p:MV},vd m' m (numsV p)→dA m' p=dA m p
 | .ptr c es k fo path,h=>by simp only [dA,h c (by simp [numsV])]
 | .ms c es off n,h=>by simp only [dA,h c (by simp [numsV])]
 | .st l,h=>by simp only [dA];rw [oY (l:=l) h]
 | .fn f l,h=>by simp only [dA];rw [oY (l:=l) h]
 | .ifc t v,h=>by simp only [dA];rw [CK (p:=v) h]
 | .tup _,_=>rfl
 | .undef,_=>rfl
 | .mp _,_=>rfl
 | .mpv ..,_=>rfl
 | .int ..,_=>rfl
 | .bool ..,_=>rfl
 | .str ..,_=>rfl
 | .nilp,_=>rfl
 | .gp ..,_=>rfl
 | .ep ..,_=>rfl
 | .sl ..,_=>rfl
 | .nils,_=>rfl
 | .nilf,_=>rfl
 | .nili,_=>rfl
 | .arr ..,_=>rfl
theorem oY: ∀{l:List MV},vd m' m (numsVs l)→gg m' l=gg m l
 | [],_=>rfl
 | q :: l,h=>by
  simp only [gg]
  rw [CK (p:=q) fun c hc=>h c (by simp [numsVs,hc]),oY (l:=l) fun c hc=>h c (by simp [numsVs,hc])]
end
theorem Ex {t:TypeId} {p:MV} (h:vd m' m (numsV p)):gG T m' t p=gG T m t p:=by
 unfold gG;cases p with
 | ptr c es k fo path=>simp only [h c (by simp [numsV])]
 | _=>rfl
theorem Bo {t:TypeId} {p v:MV} (h:vd m' m (numsV p)):fZ T m' t p v=fZ T m t p v:=by
 unfold fZ;cases p with
 | ptr c es k fo path=>simp only [h c (by simp [numsV])]
 | _=>rfl
theorem za {t:TypeId} {p:MV} {lo hi:Option MV} (h:vd m' m (numsV p)):fg T m' t p lo hi=fg T m t p lo hi:=by
 unfold fg;split
 ·have hh:=h _ (a₈ ..);simp only [hh]
 ·rfl
theorem Ey {s d:TypeId} {p:MV} (h:vd m' m (numsV p)):lJ T m' s d p=lJ T m s d p:=by
 unfold lJ;split
 ·rfl
 ·rfl
 ·rfl
 ·have hh:=h _ (a₈ ..);simp only [hh]
 ·rfl
 ·rfl
theorem Gu {es:Nat} {y:MV} {k:Nat→List MV→bj (MV×Dl)} (h:vd m' m (numsV y)):oK m' es y k=oK m es y k:=by
 unfold oK;cases y with
 | ms c es off n=>simp only [h c (by simp [numsV])]
 | _=>rfl
theorem zb {ats:List TypeId} {x y:MV} (hx:vd m' m (numsV x)) (hy:vd m' m (numsV y)):gk P T m' cnt ats x y=gk P T m cnt ats x y:=by
 unfold gk;have hs: ∀es k,oK m' es y k=oK m es y k:=fun es k=>Gu hy
 cases x with
 | ms c es off n=>simp only [hs,hx c (by simp [numsV])]
 | _=>simp only [hs]
theorem zd {t:TypeId} {p k x:MV} (h:vd m' m (numsV p)):gl P m' t p k x=gl P m t p k x:=by
 unfold gl;split
 ·have hh:=h _ (a₈ ..);simp only [hh]
 ·rfl
theorem Ez {p:MV} {b:Bool} (h:vd m' m (numsV p)):lB m' p b=lB m p b:=by
 unfold lB;split
 ·have hh:=h _ (a₈ ..);simp only [hh]
 ·rfl
theorem ze {t:TypeId} {p k:MV} {ok:Bool} (h:vd m' m (numsV p)):gH P T m' t p k ok=gH P T m t p k ok:=by
 unfold gH;split
 ·have hh:=h _ (a₈ ..);simp only [hh]
 ·rfl
theorem xw {b:Builtin} {ats:Array TypeId} {vs:List MV} (h:vd m' m (numsVs vs)):eI P T m' cnt b ats vs=eI P T m cnt b ats vs:=by
 cases b with
 | append=>
  unfold eI
  match vs,h with
  | [x,y],h=>exact zb (fun c hc=>h c (by simp [numsVs,hc])) fun c hc=>h c (by simp [numsVs,hc])
  | [],_=>rfl
  | [_],_=>rfl
  | _ :: _ :: _ :: _,_=>rfl
 | _=>rfl
theorem zf {is:List Nat} {vs:List MV} {c es off k:Nat} (h:is.zip vs= [(0, .ms c es off k)]):c∈numsVs vs:=by
 cases is with
 | nil=>simp at h
 | cons i is=>
  cases vs with
  | nil=>simp at h
  | cons v vs=>
   rw [List.zip_cons_cons] at h;injection h with h1 h2
   injection h1 with h1 h3
   subst h3;simp [numsVs,numsV]
theorem JI {o:Oper} (h:vd m' m (numsO e o.op.operands.toList)):iH P T e m' cnt o=iH P T e m cnt o:=by
 obtain⟨dst,op,ty,pos,after,guard⟩:=o;replace h:vd m' m (numsO e op.operands.toList):=h;cases op with
 | load t x=>
  refine iJ fun v hv=>Ex fun c hc=>h c ?_
  simp [Op.operands,numsO,hv,hc]
 | slice t x lo hi mx=>
  cases mx with
  | some _=>rfl
  | none=>
  refine iJ fun v hv=>?_
  have e1: ∀lo hi,fg T m' t v lo hi=fg T m t v lo hi:=fun lo hi=>za fun c hc=>h c (by simp [Op.operands,numsO,hv,hc])
  simp only [e1]
 | store t x y=>
  refine iJ fun v hv=>iJ fun u _=>Bo fun c hc=>h c ?_
  simp [Op.operands,numsO,hv,hc]
 | mapUpdate t p k x=>
  refine iJ fun v hv=>iJ fun u _=>iJ fun u2 _=>zd fun c hc=>h c ?_
  simp [Op.operands,numsO,hv,hc]
 | next x b=>
  refine iJ fun v hv=>Ez fun c hc=>h c ?_
  simp [Op.operands,numsO,hv,hc]
 | lookup t p k ok=>
  refine iJ fun v hv=>iJ fun u _=>ze fun c hc=>h c ?_
  simp [Op.operands,numsO,hv,hc]
 | convert s d x=>
  refine iJ fun v hv=>Ey fun c hc=>h c ?_
  simp [Op.operands,numsO,hv,hc]
 | buildSlice t n parts=>
  refine xv fun vs hvs=>?_
  generalize hz:(parts.toList.map (·.1)).zip vs=zs;have e:(Op.buildSlice t n parts).operands.toList=parts.toList.map (·.2):=by simp [Op.operands]
  rw [e,jk hvs] at h
  show(match mT n zs with | some x=>_ | none=>_)=(match mT n zs with | some x=>_ | none=>_)
  split
  ·rename_i x hx;obtain⟨rfl,rfl⟩:=lN hx;have hc:x.1∈numsVs vs:=zf hz;unfold eH;simp only [h _ hc]
  ·rfl
 | call c=>
  obtain⟨callee,args,ats⟩:=c;cases callee with
  | builtin b=>
   refine xv fun vs hvs=>xw fun c hc=>h c ?_
   have e:(Op.call ⟨.builtin b,args,ats⟩).operands.toList=args.toList:=by simp [Op.operands,Call.operands]
   rw [e,jk hvs];exact hc
  | _=>rfl
 | _=>rfl
def eT (S:List Nat):Dl→Prop
 | .none=>True
 | .new _=>True
 | .upd c _=>c∈S
 | .mv c _=>c∈S
 | .bump l=> ∀x∈l,x.1∈S
theorem zg {t:TypeId} {p v:MV}:ar (eT (numsV p)) (fZ T m t p v):=by
 unfold fZ;split
 ·exact ar.bad
 ·split
  ·split
   ·exact ar.cond (ar.prf (ar.ask fun _=>ar.ask fun _=>ar.val fun _=>ar.ret (by simp [eT,numsV]))) ar.bad
   ·exact ar.bad
  ·exact ar.bad
theorem xx {t:TypeId} {p k x:MV}:ar (eT (numsV p)) (gl P m t p k x):=by
 unfold gl;split
 ·split
  ·split
   ·refine ar.cond (ar.prf (ar.ask fun _=>ar.ask fun r=>?_)) ar.bad;cases r <;> exact ar.val fun _=>ar.ret (by simp [eT,numsV])
   ·exact ar.bad
  ·exact ar.bad
 ·exact ar.bad
theorem Bp {p:MV} {b:Bool}:ar (eT (numsV p)) (lB m p b):=by
 unfold lB;split
 ·split
  ·split
   ·refine ar.ask fun _=>ar.val fun r=>?_
    rcases r with _ | ⟨_,_⟩
    ·exact ar.ret (by simp [eT,numsV])
    ·exact ar.ret (by simp [eT,numsV])
   ·exact ar.bad
  ·exact ar.bad
 ·exact ar.bad
theorem xy {ats:List TypeId} {x y:MV}:ar (eT (numsV x)) (gk P T m cnt ats x y):=by
 have src: ∀{es:Nat} {k:Nat→List MV→bj (MV×Dl)},(∀n l,ar (eT (numsV x)) (k n l))→ar (eT (numsV x)) (oK m es y k):=by
  intro es k hk;unfold oK;split
  ·exact ar.prf (hk _ _)
  ·exact hk _ _
  ·split
   ·exact ar.cond (ar.prf (ar.val fun _=>hk _ _)) ar.bad
   ·exact ar.bad
  ·exact ar.bad
 unfold gk;split
 ·refine ar.cond ?_ ar.bad;split
  ·split
   ·refine ar.cond (ar.ask fun _=>src fun n l=>?_) ar.bad;split
    ·exact ar.prf (ar.ret trivial)
    ·split
     ·exact ar.cond (ar.prf (ar.val fun _=>ar.val fun _=>ar.ret (by simp [eT,numsV]))) ar.bad
     ·exact ar.bad
    ·exact ar.bad
   ·exact ar.bad
  ·exact ar.bad
 ·exact ar.bad
theorem eT.sub {S S':List Nat} {δ:Dl} (h:eT S δ) (hs: ∀c∈S,c∈S'):eT S' δ:=by
 cases δ with
 | none=>trivial
 | new=>trivial
 | upd c l=>exact hs c h
 | mv c b=>exact hs c h
 | bump l=>exact fun x hx=>hs _ (h x hx)
theorem lQ: ∀{l:List Operand} {k:List MV→bj A} {K:A→Prop},(mS e l k).runP K→∃vs,l.map (iV e)=vs.map some∧(k vs).runP K
 | [],_,_,h=>⟨[],rfl,h⟩
 | x :: l,k,K,h=>by
  unfold mS rd at h
  split at h
  ·rename_i v hv
   obtain⟨vs,h1,h2⟩:=lQ (k:=fun r=>k (v :: r)) h
   exact⟨v :: vs,by simp [hv,h1],h2⟩
  ·exact h.elim
theorem zh {o:Oper} {r:MV} {δ:Dl} (h:(iH P T e m cnt o).runP fun x=>x=(r,δ)):eT (numsO e o.op.operands.toList) δ:=by
 have gen:c₄ (qq o) 1=true→eT (numsO e o.op.operands.toList) δ:=by
  intro hk;obtain⟨r',δ',h1,h2⟩:=CJ P T e m cnt o _ h;injection h2 with h2 h3
  subst h3;generalize qq o=k at h1 hk
  match k,h1,hk with
  | 0,h1,_=>rw [show δ'= .none from h1];trivial
  | 1,h1,_=>obtain ⟨b,h1⟩:=(show ∃b,δ'= .new b from h1);rw [h1];trivial
  | _ + 2,_,hk=>simp at hk
 have fromRd: ∀{x:Operand} {k:MV→bj (MV×Dl)} {S:List Nat},(∀v,iV e x=some v→ar (eT S) (k v))→(rd e x k).runP (fun x=>x=(r,δ))→eT S δ:=by
  intro x k S hk h;unfold rd at h;split at h
  ·rename_i v hv;obtain⟨r',δ',h1,h2⟩:=hk v hv _ h;injection h2 with h2 h3
   subst h3;exact h1
  ·exact h.elim
 obtain⟨dst,op,ty,pos,after,guard⟩:=o;cases op with
 | load t x=>
  refine fromRd (S:=numsO e [x]) (fun v hv=>(vQ T m _ _).weak fun δ hδ=>?_) h;rw [hδ];trivial
 | convert s d x=>
  refine fromRd (S:=numsO e [x]) (fun v hv=>(vR T m _ _ _).weak fun δ hδ=>?_) h;rw [hδ];trivial
 | lookup t p k ok=>
  refine fromRd (S:=numsO e [p,k]) (fun v hv=>ar.rd fun _=>(rL P T m _ _ _ _).weak fun δ hδ=>?_) h;rw [hδ];trivial
 | next x b=>
  refine fromRd (S:=numsO e [x]) (fun v hv=>?_) h;intro K hK;obtain⟨r',δ',h1,h2⟩:=Bp K hK;exact⟨r',δ',h1.sub fun c hc=>by simp [numsO,hv,hc],h2⟩
 | mapUpdate t p k x=>
  refine fromRd (S:=numsO e [p,k,x]) (fun v hv=>?_) h;refine ar.rd fun u=>ar.rd fun u2=>?_
  intro K hK;obtain⟨r',δ',h1,h2⟩:=xx K hK;exact⟨r',δ',h1.sub fun c hc=>by simp [numsO,hv,hc],h2⟩
 | slice t x lo hi mx=>
  cases mx with
  | some _=>exact h.elim
  | none=>
  refine fromRd (fun v hv=>ar.rdo fun lo'=>ar.rdo fun hi'=>?_) h;unfold fg;split
  ·rename_i n e0 es c k0 k fo path hd;split
   ·split
    ·exact ar.cond (ar.ask fun _=>ar.val fun _=>ar.val fun _=>ar.ret fun y hy=>by
      simp at hy;subst hy;simp [Op.operands,numsO,hv,numsV]) ar.bad
    ·exact ar.bad
   ·exact ar.bad
  ·exact(tA T _ _ _ _).weak fun δ hδ=>by rw [hδ];trivial
 | buildSlice t n parts=>
  match n,gen,h with
  | 0,gen,_=>exact gen rfl
  | _ + 2,gen,_=>exact gen rfl
  | 1,_,h=>
   obtain⟨vs,h1,h2⟩:=lQ h;generalize hz:(parts.toList.map (·.1)).zip vs=zs at h2;have e1:(Op.buildSlice t 1 parts).operands.toList=parts.toList.map (·.2):=by simp [Op.operands]
   show eT (numsO e (Op.buildSlice t 1 parts).operands.toList) δ
   rw [e1,jk h1];split at h2
   ·rename_i x hx;obtain⟨_,rfl⟩:=lN hx;have hc:x.1∈numsVs vs:=zf hz;have ho:ar (eT (numsVs vs)) (eH T m cnt t x.1 x.2.1 x.2.2.1 x.2.2.2):=by
     unfold eH
     repeat' split
     all_goals first | exact ar.bad | exact ar.cond (ar.prf (ar.val fun _=>ar.ret hc)) ar.bad
    obtain⟨r',δ',h3,h4⟩:=ho _ h2;injection h4 with h4 h5
    subst h5;exact h3
   ·obtain⟨r',δ',⟨b,h3⟩,h4⟩:=gm T cnt _ _ _ _ h2;injection h4 with h4 h5
    subst h5;rw [h3];trivial
 | store t x y=>
  refine fromRd (S:=numsO e [x,y]) (fun v hv=>?_) h;refine ar.rd fun u=>?_
  intro K hK;obtain⟨r',δ',h1,h2⟩:=zg K hK;exact⟨r',δ',h1.sub fun c hc=>by simp [numsO,hv,hc],h2⟩
 | call c=>
  obtain⟨callee,args,ats⟩:=c;cases callee with
  | builtin b=>
   cases b with
   | append=>
    have e1:(Op.call ⟨.builtin .append,args,ats⟩).operands.toList=args.toList:=by simp [Op.operands,Call.operands]
    show eT (numsO e (Op.call ⟨.builtin .append,args,ats⟩).operands.toList) δ
    rw [e1];replace h:(mS e args.toList fun vs=>eI P T m cnt .append ats vs).runP fun x=>x=(r,δ):=h
    have key: ∀(l:List Operand) (k:List MV→bj (MV×Dl)) (K:MV×Dl→Prop),(mS e l k).runP K→∃vs,l.map (iV e)=vs.map some∧(k vs).runP K:=by
     intro l
     induction l with
     | nil=>intro k K h;exact⟨[],rfl,h⟩
     | cons x l ih=>
      intro k K h;unfold mS rd at h;split at h
      ·rename_i v hv;obtain⟨vs,h1,h2⟩:=ih _ K h;exact⟨v :: vs,by simp [hv,h1],h2⟩
      ·exact h.elim
    obtain⟨vs,h1,h2⟩:=key _ _ _ h;rw [jk h1];unfold eI at h2;simp only at h2;split at h2
    ·rename_i x y;obtain⟨r',δ',h3,h4⟩:=xy _ h2;injection h4 with h4 h5
     subst h5;exact h3.sub fun c hc=>by simp [numsVs,hc]
    ·exact h2.elim
   | _=>exact gen rfl
  | _=>exact h.elim
 | _=>exact gen rfl
theorem Gv {S:List Nat} {δ:Dl} (h:eT S δ) {c:Nat} (hc:c ∉ S) (hn:c≠cnt):δ.appF cnt m c=m c:=by
 cases δ with
 | none=>rfl
 | new b=>exact aJ _ _ hn
 | upd c' l=>
  show(match m c' with | some b=>aO m c' { b with l:=l } | none=>m) c=m c
  cases m c' with
  | none=>rfl
  | some b=>exact aJ _ _ (by rintro rfl;exact hc h)
 | mv c' b=>
  show aO (iT m c') cnt b c=m c
  rw [aJ _ _ hn];unfold iT;rw [if_neg (by rintro rfl;exact hc h)]
 | bump l=>
  show dk m l c=m c
  rw [bumpF_get];have h': ∀x∈l,x.1∈S:=h
  clear h;have:mxB l c=0:=by
   induction l with
   | nil=>rfl
   | cons x l ih=>
    obtain⟨k,n⟩:=x;have:k≠c:=by rintro rfl;exact hc (h' (k,n) sm)
    simp only [mxB,this,if_false];exact ih fun y hy=>h' y (by simp [hy])
  rw [this];cases m c with
  | none=>rfl
  | some b=>simp
theorem JJ {S:List Nat} {δ:Dl} (h:eT S δ) (ha: ∀c,c∈S∨c=cnt→m' c=m c) {c:Nat} (hc:c∈S∨c=cnt):δ.appF cnt m' c=δ.appF cnt m c:=by
 cases δ with
 | none=>exact ha c hc
 | new b=>
  show aO m' cnt b c=aO m cnt b c
  unfold aO;split
  ·rfl
  ·exact ha c hc
 | upd c' l=>
  show(match m' c' with | some b=>aO m' c' { b with l:=l } | none=>m') c=(match m c' with | some b=>aO m c' { b with l:=l } | none=>m) c
  rw [ha c' (.inl h)];cases m c' with
  | none=>exact ha c hc
  | some b=>
   show aO m' c' _ c=aO m c' _ c
   unfold aO;split
   ·rfl
   ·exact ha c hc
 | mv c' b=>
  show aO (iT m' c') cnt b c=aO (iT m c') cnt b c
  unfold aO iT;split
  ·rfl
  ·split
   ·rfl
   ·exact ha c hc
 | bump l=>
  show dk m' l c=dk m l c
  rw [bumpF_get,bumpF_get,ha c hc]
mutual
theorem zj: ∀{p:MV} {K:MV×List (Nat×Nat)→Prop},(dA m p).runP K→(dA m p).runP fun x=>K x∧∀z∈x.2,z.1∈numsV p
 | .ms c es off n,K,h=>by
  simp only [dA] at h ⊢
  split at h
  ·split at h
   ·obtain⟨a1,l,a2,h⟩:=h
    exact⟨a1,l,a2,h,fun z hz=>by simp at hz;subst hz;simp [numsV]⟩
   ·exact h.elim
  ·exact h.elim
 | .st l,K,h=>by simp only [dA] at h ⊢;exact dE (kg (bj.bind_runP.1 h)) fun _ h=>h
 | .fn f l,K,h=>by simp only [dA] at h ⊢;exact dE (kg (bj.bind_runP.1 h)) fun _ h=>h
 | .ifc t v,K,h=>by simp only [dA] at h ⊢;exact ir (zj (bj.bind_runP.1 h)) fun _ h=>h
 | .ptr c es k fo path,K,h=>by
  simp only [dA] at h ⊢
  split at h
  ·rename_i b hb
   cases he:a₂ b.es es with
   | false=>rw [he] at h;exact h.elim
   | true=>
    rw [he] at h
    obtain⟨v,q1,h⟩:=h
    cases hf:v.idFree with
    | false=>rw [hf] at h;exact h.elim
    | true=>rw [hf] at h;exact⟨v,q1,by simp only [hf];exact⟨h,fun z hz=>by simp at hz;subst hz;simp [numsV]⟩⟩
  ·exact h.elim
 | .tup _,K,h=>by simp only [dA] at h;exact h.elim
 | .undef,K,h=>by simp only [dA] at h;exact h.elim
 | .mp _,K,h=>by simp only [dA] at h;exact h.elim
 | .mpv ..,K,h=>by simp only [dA] at h;exact h.elim
 | .int ..,K,h=>by simp only [dA] at h ⊢;exact⟨h,fun _ hc=>nomatch hc⟩
 | .bool ..,K,h=>by simp only [dA] at h ⊢;exact⟨h,fun _ hc=>nomatch hc⟩
 | .str ..,K,h=>by simp only [dA] at h ⊢;exact⟨h,fun _ hc=>nomatch hc⟩
 | .nilp,K,h=>by simp only [dA] at h ⊢;exact⟨h,fun _ hc=>nomatch hc⟩
 | .gp ..,K,h=>by simp only [dA] at h ⊢;exact⟨h,fun _ hc=>nomatch hc⟩
 | .ep ..,K,h=>by simp only [dA] at h ⊢;exact⟨h,fun _ hc=>nomatch hc⟩
 | .sl ..,K,h=>by simp only [dA] at h ⊢;exact⟨h,fun _ hc=>nomatch hc⟩
 | .nils,K,h=>by simp only [dA] at h ⊢;exact⟨h,fun _ hc=>nomatch hc⟩
 | .nilf,K,h=>by simp only [dA] at h ⊢;exact⟨h,fun _ hc=>nomatch hc⟩
 | .nili,K,h=>by simp only [dA] at h ⊢;exact⟨h,fun _ hc=>nomatch hc⟩
 | .arr ..,K,h=>by simp only [dA] at h ⊢;exact⟨h,fun _ hc=>nomatch hc⟩
theorem kg: ∀{l:List MV} {K:List MV×List (Nat×Nat)→Prop},(gg m l).runP K→(gg m l).runP fun x=>K x∧∀z∈x.2,z.1∈numsVs l
 | [],K,h=>⟨h,fun _ hc=>nomatch hc⟩
 | q :: l,K,h=>by
  simp only [gg] at h ⊢
  refine ir (zj (bj.bind_runP.1 h)) fun x hx=>?_
  refine dE (kg (bj.bind_runP.1 hx.1)) fun y hy=>⟨hy.1,fun c hc=>?_⟩
  rw [numsVs,b₅]
  rcases b₅.1 hc with hc | hc
  ·exact .inl (hx.2 c hc)
  ·exact .inr (hy.2 c hc)
end
theorem zk {B:Type}: ∀{l:List Operand} {k:List MV→bj A} {k':List MV→bj B} {K:A→Prop} {K':B→Prop},(∀vs,l.map (iV e)=vs.map some→(k vs).runP K→(k' vs).runP K')→(mS e l k).runP K→(mS e l k').runP K'
 | [],_,_,_,_,hk,h=>hk [] rfl h
 | x :: l,k,k',K,K',hk,h=>by
  unfold mS rd at h ⊢
  split at h
  ·rename_i v hv
   exact zk (k:=fun r=>k (v :: r)) (k':=fun r=>k' (v :: r)) (fun vs hvs h=>hk (v :: vs) (by simp [hv,hvs]) h) h
  ·exact h.elim
section
variable {ents:List FuncId} {G:GS} {ops:Array Oper} {o:Oper} {n:Nat} {r:MV} {δ:Dl} {m1:FM}
theorem tE {c:Call} {f:Operand} (hf:c.callee= .value f):(Op.call c).operands.toList=f :: c.args.toList:=by simp [Op.operands,Call.operands,hf]
theorem EA (h:kV P T ents G o e m n r δ):eT (numsO e o.op.operands.toList) δ:=by
 unfold kV at h;split at h
 ·rename_i c hc;split at h
  ·rename_i f hf;rw [hc,tE hf];unfold gJ rd at h;split at h
   ·rename_i v hv;obtain⟨vs,h1,h2⟩:=lQ h;split at h2
    ·obtain⟨_,x,_,h4,h3⟩:=gS (kg (bj.bind_runP.1 h2));obtain⟨_,_,rfl,_⟩:=h4;intro z hz;have:=h3 z hz;rw [oc] at this;simp only [numsO,hv,numsV,jk h1,b₅] at this ⊢;exact this.symm
    ·exact h2.elim
   ·exact h.elim
  ·exact zh h
 ·exact zh h
theorem vS (h:nE P T ents G ops o e m n r δ):eT (numsO e o.op.operands.toList) δ:=by
 obtain⟨b,_,h2,h3⟩:=h;cases b with
 | false=>rw [(h3 rfl).2];trivial
 | true=>exact EA (h2 rfl)
theorem Gw (ha:vd m1 m (numsO e o.op.operands.toList)):kV P T ents G o e m n r δ→kV P T ents G o e m1 n r δ:=by
 have hp:iH P T e m1 n o=iH P T e m n o:=JI ha;unfold kV;split
 ·rename_i c hc;split
  ·rename_i f hf;rw [hc,tE hf] at ha;intro hr;unfold gJ rd at hr ⊢;split at hr
   ·rename_i v hv;refine zk (fun vs hvs h=>?_) hr;split at h
    ·rename_i f0 caps;have hag:vd m1 m (numsVs (vs ++ caps)):=fun c hc=>ha c (by
      rw [oc] at hc;simp only [numsO,hv,numsV,jk hvs,b₅] at hc ⊢;exact hc.symm)
     show(gg m1 (vs ++ caps)).runP _
     rw [oY hag];refine dE (kg (bj.bind_runP.1 h)) fun x hx=>?_
     obtain⟨⟨p1,p2,p3,p4⟩,p5⟩:=hx;exact⟨p1,p2,p3,fun z hz=>by rw [hag z.1 (p5 z hz)];exact p4 z hz⟩
    ·exact h.elim
   ·exact hr.elim
  ·rw [hp];exact id
 ·rw [hp];exact id
theorem Gx (ha:vd m1 m (numsO e o.op.operands.toList)):nE P T ents G ops o e m n r δ→nE P T ents G ops o e m1 n r δ:=by
 rintro⟨b,h1,h2,h3⟩;exact⟨b,h1,fun hb=>Gw ha (h2 hb),h3⟩
end
end
end
end Go.Proofs.YtohikcplmbkmeaaGreatDoor
