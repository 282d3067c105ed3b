/- Parts of a proof. -/
import Derived.Test.YtohikcplmbkmeaaGreatDoorW01
open Bool renaming and_eq_true → a₀
open Nat renaming eq_of_beq_eq_true → a₁,beq → a₂,mul_le_mul_right → a₄,lt_of_lt_of_le → a₇,max → b₀,blt → b₁,le_refl → b₂,le_trans → b₃,lt_or_ge → b₆,blt_eq → c₀,add_mul → c₃,ble → c₄,zero_le → c₇
open List renaming getElem?_eq_some_iff → a₃,length_take → a₅,length_drop → a₆,mem_cons_self → a₈,zipWith → a₉,mem_cons → b₄,mem_append → b₅,mem_of_mem_drop → b₇,mem_of_mem_take → b₈,all_eq_true → b₉,getElem?_take → c₁,getElem?_drop → c₂,map_cons → c₅,drop_eq_getElem_cons → c₆,zipWith_cons_cons → c₈,mem_cons_of_mem → c₉,getElem_mem → d₀
open Option renaming bind_some → d₁
set_option maxRecDepth 20000
set_option maxHeartbeats 16000000
set_option linter.unusedVariables false
set_option linter.unusedSimpArgs false
namespace Go.Proofs.YtohikcplmbkmeaaGreatDoor
open Go.RowKit
section
section
variable {w w':World} {P P':cB} {adr aN:gG} {m m0:FM}
theorem bf.bump1 (h:bf w P adr m) {c n:Nat} {b:MB} (hb:m c=some b) (hn:n≤b.l.length) :
  ∃P',bf w P' adr (aR m c { b with pe:=b₀ b.pe n })∧bJ w w P P' adr adr∧(∀x o,P' x o→P x o∨∃c,adr c=some x)∧(∀g,adr c=some g→∀o,o < n * b.es→P' g o):=by
 rcases h.blk c b hb with h1 | ⟨g,h1,h2⟩
 ·have uD:n=0:=by rw [h1.2.1] at hn;exact Nat.le_zero.1 hn
  subst uD
  have e:aR m c { b with pe:=b₀ b.pe 0 }=m:=by
   funext x
   by_cases e:x=c
   ·subst e
    rw [aI,hb]
    have:b₀ b.pe 0=b.pe:=Nat.max_eq_left (c₇ _)
    rw [this]
   ·exact aL _ _ e
  rw [e]
  exact⟨P,h,bJ.refl _ _ _,fun _ _ h=> .inl h,fun g hg o ho=>by rw [Nat.zero_mul] at ho;omega⟩
 ·have k:bJ w w P (fun x o=>P x o∨(x=g∧o < n * b.es)) adr adr:=⟨fun _ _ h=> .inl h,fun _ _ _=>rfl,fun _ _ h=>h,fun _ _ cur _ _ h=>⟨cur,h,rfl⟩⟩
  refine⟨fun x o=>P x o∨(x=g∧o < n * b.es),⟨fun x y hx=>?_,fun x y bx bY g' hx hy pK pI=>?_,fun x o hp=>?_⟩,k,fun x o hp=>?_,fun g' BA o ho=>?_⟩
  ·by_cases e:x=c
   ·subst e
    rw [aI] at hx
    injection hx with hx
    subst hx
    refine .inr ⟨g,h1,?_,fun o ho=>?_,?_⟩
    ·rcases h2.has' with ⟨cur,parts,a1,a2,a3,a4,a5⟩ | ⟨m1,m2,ks,vs,o,m3,m4,m5⟩
     ·exact .inl ⟨cur,parts,a1,a2,a3,fun j z p hz hp=>(a4 j z p hz hp).keep (k.sub b.row),a5⟩
     ·exact .inr ⟨m1,m2,ks,vs,o,m3,m4,m5.keep k⟩
    ·rcases ho with ho | ho
     ·exact a₇ (h2.pe o ho) (a₄ _ (Nat.le_max_left _ _))
     ·exact a₇ ho.2 (a₄ _ (Nat.le_max_right _ _))
    ·exact Nat.max_le.2 ⟨h2.le,hn⟩
   ·rw [aL _ _ e] at hx
    rcases h.blk x y hx with h3 | ⟨g',h3,h4⟩
    ·exact .inl h3
    ·refine .inr ⟨g',h3,h4.keep k rfl fun o ho=>?_⟩
     rcases ho with ho | ho
     ·exact ho
     ·rw [ho.1] at h3
      exact absurd (h.inj x c y b g hx hb h3 h1) e
  ·have old: ∀{x:Nat} {bx:MB},aR m c { b with pe:=b₀ b.pe n } x=some bx→∃y,m x=some y:=by
    intro x bx hx
    by_cases e:x=c
    ·subst e;exact⟨b,hb⟩
    ·rw [aL _ _ e] at hx;exact⟨bx,hx⟩
   obtain⟨_,a1⟩:=old hx
   obtain⟨_,a2⟩:=old hy
   exact h.inj x y _ _ g' a1 a2 pK pI
  ·rcases hp with hp | hp
   ·exact h.prot x o hp
   ·rw [hp.1];exact h2.lt
  ·rcases hp with hp | hp
   ·exact .inl hp
   ·exact .inr ⟨c,by rw [hp.1];exact h1⟩
  ·rw [h1] at BA
   injection BA with BA
   subst BA
   exact .inr ⟨rfl,ho⟩
theorem bJ.same (k:bJ w w P P' adr adr) (a:gG):bJ w w P P' a a:=⟨k.prot,fun _ _ _=>rfl,fun _ _ h=>h,fun _ _ cur _ _ h=>⟨cur,h,rfl⟩⟩
end
section
variable {Pg:Program} {T:bD} {w w':World} {P P':cB} {adr aN:gG} {m:FM} {cnt:Nat} {K:MV×Dl→Prop} {u v x y:Value} {r:MV}
theorem EJ (hT:cZ Pg T) (hI:bf w P adr m) (hn:adr cnt=none) {t:TypeId} {p:MV} {lo hi:Option MV} {vl vh:Option Value} (h:(fW T m t p lo hi).runP K) (hp:aM w P adr p u) (hl:mg w P adr lo vl) (hh:mg w P adr hi vh) :
  ∃r δ y w',K (r,δ)∧(Instr.sliceAt t u vl vh none).run Pg w= .ok y w'∧bP w P adr m cnt r δ y w':=by
 unfold fW at h
 split at h
 ·rename_i n e0 es c k0 k fo path hd
  split at h
  ·rename_i b hb
   split at h
   ·rename_i n' gr l kS
    cases hq:(a₂ k 0 && a₂ fo 0 && path.isEmpty && a₂ n n' && a₂ es gr) with
    | false=>rw [hq] at h;exact h.elim
    | true=>
     rw [hq] at h
     simp only [a₀] at hq
     obtain⟨⟨⟨⟨q1,q2⟩,q3⟩,q4⟩,q5⟩:=hq
     have q1:=a₁ q1
     have q2:=a₁ q2
     have q4:=a₁ q4
     have q5:=a₁ q5
     subst q1 q2 q4 q5
     obtain⟨⟨l0,h0⟩,Xl,x,hx,j,hj,h⟩:=h
     injection hx with hx
     injection hj with hj
     subst hx;subst hj
     obtain⟨h1,h2,h3,h4⟩:=j9 Xl
     obtain⟨hu,hs⟩:=TD.fits_arr (hT.fits hd)
     obtain⟨g,hg,rfl⟩:=hp.ptr_
     rcases hI.blk c b hb with h5 | ⟨g',h5,h6⟩
     ·rw [hg] at h5;cases h5.2.2.1
     rw [hg] at h5
     injection h5 with h5
     subst h5
     obtain⟨P',a1,a2,a3,a4⟩:=hI.bump1 hb (n:=1) (by rw [kS];exact b₂ _)
     obtain⟨cur,parts,c1,c2,c3,c4,c5⟩:=h6.ofL (by rw [kS];intro ks vs e;cases e)
     rw [kS] at c2
     match parts,c2 with
     | [p0],_=>
     have dA:=c4 0 (.arr n es l) p0 (by rw [kS];rfl) rfl
     have Zs:=c3 p0 sm
     cases dA with
     | arr parts2 d1 d2 d3 d4=>
     have b0z:b.es=n * es:=by rw [← Zs,aU d3,d2]
     have Yc:=eU (P:=Pg) (b:=false) (mg.bnd hl h4) (mg.bnd hh (d:=n) h3) h1 h2 w
     refine⟨_,_, .slice (some (if n=l0 then⟨g,0 * k0 + 0,none⟩ else(⟨g,0 * k0 + 0,none⟩:Addr).add (l0 * es))) (h0 - l0) (n - l0),w,h,?_,?_⟩
     ·simp only [Instr.sliceAt,Instr.sureAddr,Sem.run_bind,run_underlying hu,Result.andThen_ok,Sem.run_pure,Yc,bG hs]
     ·refine⟨P',adr,?_,?_,a2,fun _ _=>rfl,fun g hg=>(by rw [hn] at hg;cases hg),db.refl _ _,fun x o hx=>(a3 x o hx).elim .inl fun h=> .inr (.inr h)⟩
      ·have qw:(cutL l l0 h0).length=h0 - l0:=by unfold cutL;rw [a₅,a₆];omega
       have fF: ∀p∈(parts2.drop l0).take (h0 - l0),p.length=es:=fun p hp=>d3 p (b₇ (b₈ hp))
       have oE:((parts2.drop l0).take (h0 - l0)).length=h0 - l0:=by rw [a₅,a₆];omega
       refine .val [_] (.sl _ (n - l0) es ((parts2.drop l0).take (h0 - l0)) qw oE fF (fun h=>nomatch h) om (fun uD=>⟨g,l0 * es,?_,fun j u hj=>?_⟩) fun j x p hx hp=>?_)
       ·rw [if_neg om];simp [Addr.add_mid]
       ·have xX:=(a₃.1 hj).1
        rw [aU fF,oE] at xX
        have hmul:l0 * es + (h0 - l0) * es=h0 * es:=by rw [← c₃];congr 1;omega
        have f0z:h0 * es≤n * es:=a₄ _ h2
        refine⟨?_,a4 g hg _ (by rw [Nat.one_mul,b0z];omega)⟩
        rw [cell_of_row w g _ cur b.ty (0,0) c1]
        have h7:=eu d3 l0 (h0 - l0) hj om
        have h8:([parts2.flatten] :List (List Value)).flatten=parts2.flatten:=sm
        have:=eH c5 (by rw [h8];exact h7)
        simpa using this
       ·obtain⟨hx,Z6⟩:=ka hx
        rw [c₁,if_pos Z6,c₂] at hp
        exact(d4 _ x p hx hp).keep (a2.same _)
      ·have e5:(Dl.bump [(c,1)]).appF cnt m=aR m c { b with pe:=b₀ b.pe 1 }:=by
        show(match m c with | some b=>_ | none=>m)=_
        rw [hb]
       rw [e5];exact a1
   ·exact h.elim
  ·exact h.elim
 ·obtain⟨r,y,h1,h2,h3⟩:=Is hT h hp hl hh
  exact⟨r, .none,y,w,h1,h2,bP.pure hI hn h3⟩
theorem nw {n:Nat} {ps:List (Nat×MV)} {x:Nat×Nat×Nat×Nat} (h:oN n ps=some x):n=1∧ps= [(0, .ms x.1 x.2.1 x.2.2.1 x.2.2.2)] :=by
 unfold oN at h;split at h
 ·split at h
  ·injection h with h;subst h;exact⟨rfl,rfl⟩
  ·cases h
 ·cases h
theorem Iv (hI:bf w P adr m) {c es off n:Nat} {b:MB} (hb:m c=some b) (dP:b.row=true) (ej:b.es=es) (hle:off + n≤b.l.length) (hp:aM w P adr (.ms c es off n) u) :
  ∃P',bf w P' adr (jJ m c)∧bJ w w P P' adr adr∧(∀x o,P' x o→P x o∨∃c,adr c=some x)∧aM w P' adr (.sl n (cutL b.l off (off + n))) u:=by
 obtain⟨P',a1,a2,a3,a4⟩:=hI.bump1 hb (n:=off + n) hle
 have hI2:bf w P' adr (jJ m c):=a1.sub fun x y hx=>by
  obtain⟨h1,h2⟩:=oL hx
  rw [aL _ _ h1];exact h2
 refine⟨P',hI2,a2,a3,?_⟩
 rcases hp.ms_ with ⟨rfl,rfl,rfl⟩ | ⟨g,o,cap,hg,rfl,ho,iq,sE,_⟩
 ·have Ke:cutL b.l 0 (0 + 0)= [] :=by simp [cutL]
  rw [Ke]
  exact .val [_] (.sl none 0 0 [] rfl rfl (fun p hp=>nomatch hp) (fun _=>⟨rfl,rfl⟩) (b₂ _) (fun h=>absurd rfl h) (fun j m p h=>by simp at h))
 ·rcases hI.blk c b hb with h1 | ⟨g',h1,h2⟩
  ·rw [hg] at h1;cases h1.2.2.1
  rw [hg] at h1
  injection h1 with h1
  subst h1
  obtain⟨cur,parts,c1,c2,c3,c4,c5⟩:=h2.ofR dP
  rw [dP] at c4
  have qw:(cutL b.l off (off + n)).length=n:=by unfold cutL;rw [a₅,a₆];omega
  have jD:parts.length=b.l.length:=c2
  have pH: ∀p∈parts,p.length=es:=fun p hp=>by rw [c3 p hp,ej]
  have fF: ∀p∈(parts.drop off).take n,p.length=es:=fun p hp=>pH p (b₇ (b₈ hp))
  have oE:((parts.drop off).take n).length=n:=by rw [a₅,a₆];omega
  refine .val [_] (.sl (some ⟨g,o,none⟩) cap es ((parts.drop off).take n) qw oE fF (fun h=>nomatch h) iq (fun uD=>⟨g,o,rfl,fun j u hj=>?_⟩) fun j x p hx hp=>?_)
  ·have ho:=ho (.inl uD)
   subst ho
   have xX:=(a₃.1 hj).1
   rw [aU fF,oE] at xX
   refine⟨?_,a4 g hg _ ?_⟩
   ·rw [cell_of_row w g _ cur b.ty (0,0) c1]
    have:=eH c5 (eu pH off n hj om)
    simpa using this
   ·rw [ej,c₃];omega
  ·obtain⟨hx,hj⟩:=ka hx
   rw [c₁] at hp
   split at hp
   ·rw [c₂] at hp
    exact(c4 _ x p hx hp).keep (a2.same noAdr)
   ·cases hp
theorem Ah (hT:cZ Pg T) (hI:bf w P adr m) (hn:adr cnt=none) (hm:m cnt=none) {t:TypeId} {c gr off k:Nat} (h:(fw T m cnt t c gr off k).runP K) (hp:aM w P adr (.ms c gr off k) u) :
  ∃r δ y w',K (r,δ)∧(Instr.buildSlice t 1 #[(0,u)]).run Pg w= .ok y w'∧bP w P adr m cnt r δ y w':=by
 unfold fw at h
 split at h
 ·rename_i e es hd
  split at h
  ·rename_i z hz
   split at h
   ·rename_i b hb
    cases hq:(a₂ z.size es && a₂ es 1 && z.idFree && !z.isAgg && b.row && a₂ b.es gr) with
    | false=>rw [hq] at h;exact h.elim
    | true=>
     rw [hq] at h
     simp only [a₀] at hq
     obtain⟨⟨⟨⟨⟨q1,q2⟩,q3⟩,q4⟩,q5⟩,q6⟩:=hq
     obtain⟨hle,l,hl,h⟩:=h
     injection hl with hl
     subst hl
     have q2:=a₁ q2
     have q1:=a₁ q1
     have q4:z.isAgg=false:=by simpa using q4
     obtain⟨P',a1,a2,a3,a4⟩:=Iv hI hb q5 (a₁ q6) hle hp
     have UY:jJ m c cnt=none:=by unfold jJ;split;rfl;exact hm
     have h2:(eB T cnt t 1 [(0, .sl k (cutL b.l off (off + k)))]).runP fun x=>x=(.ms cnt es 0 1, .new ⟨e,es,true,0,[.sl k (cutL b.l off (off + k))]⟩):=by
      unfold eB
      rw [hd]
      simp only [hz]
      have e1:(a₂ z.size es && b₁ 0 es && c₄ ((0 + 1) * es) 16777216 && z.idFree && [((0:Nat),MV.sl k (cutL b.l off (off + k)))].all (fun p=>p.2.isVal))=true:=by
       rw [q1,q2,q3];rfl
      have e2:gg (repM (0 + 1) z) [(0, .sl k (cutL b.l off (off + k)))] =some [.sl k (cutL b.l off (off + k))] :=by
       show(match cE [z] 0 with | some m=>bif a₂ (MV.sl k (cutL b.l off (off + k))).size m.size && OT (MV.sl k (cutL b.l off (off + k))).isAgg m.isAgg then gg (setL [z] 0 _) [] else none | none=>none)=_
       show(bif a₂ (MV.sl k (cutL b.l off (off + k))).size z.size && OT (MV.sl k (cutL b.l off (off + k))).isAgg z.isAgg then gg (setL [z] 0 _) [] else none)=_
       rw [q4,q1,q2]
       rfl
      simp only [e1,e2]
      rfl
     obtain⟨r,δ,y,w',hr,k8,YI⟩:=nv hT a1 hn UY h2 (pv:= [(0,u)]) ⟨rfl,a4,trivial⟩
     injection hr with SS xY
     subst SS;subst xY
     obtain⟨P2,xM,p1,p2,p3,p4,p5,p6,p7⟩:=YI
     refine⟨_,_,y,w',h,k8,P2,xM,p1,p2,a2.trans p3,p4,p5,p6,fun x o hx=>?_⟩
     rcases p7 x o hx with h | h | h
     ·exact(a3 x o h).elim .inl fun h=> .inr (.inr h)
     ·exact .inr (.inl h)
     ·exact .inr (.inr h)
   ·exact h.elim
  ·exact h.elim
 ·exact h.elim
end
end
section
section
variable {Pg:Program} {T:bD} {w w':World} {P P':cB} {adr aN:gG} {m:FM} {cnt:Nat} {K:MV×Dl→Prop} {u v y:Value} {r:MV}
theorem aM.mp_ {c:Nat} (h:aM w P adr (.mp c) u): ∃g,adr c=some g∧u= .map (some g):=by
 cases h with
 | val cs h=>
  cases h with
  | mp g hg=>exact ⟨g,hg,rfl⟩
theorem jd.len: ∀{ks vs:List MV} {es:List MapEntry},jd w P ks vs es→es.length=ks.length∧vs.length=ks.length
 | [],[],[],_=>⟨rfl,rfl⟩
 | _ :: _,_ :: _,_ :: _,h=>by have:=jd.len h.2.2;simp [this.1,this.2]
 | [],[],_ :: _,h=>h.elim
 | [],_ :: _,_,h=>h.elim
 | _ :: _,[],_,h=>h.elim
 | _ :: _,_ :: _,[],h=>h.elim
theorem jd.push {k x:MV} {e:MapEntry} (hk:aM w P noAdr k e.key) (hx:aM w P noAdr x e.val): ∀{ks vs:List MV} {es:List MapEntry},jd w P ks vs es→jd w P (ks ++ [k]) (vs ++ [x]) (es ++ [e])
 | [],[],[],_=>⟨hk,hx,trivial⟩
 | _ :: _,_ :: _,_ :: _,h=>⟨h.1,h.2.1,jd.push hk hx h.2.2⟩
 | [],[],_ :: _,h=>h.elim
 | [],_ :: _,_,h=>h.elim
 | _ :: _,[],_,h=>h.elim
 | _ :: _,_ :: _,[],h=>h.elim
theorem jd.at: ∀{ks vs:List MV} {es:List MapEntry} {j:Nat} {x:MV},jd w P ks vs es→vs[j]? =some x→∃e,es[j]? =some e∧aM w P noAdr x e.val
 | _ :: _,_ :: _,e :: _,0,x,h,hx=>by injection hx with hx;subst hx;exact⟨e,rfl,h.2.1⟩
 | _ :: _,_ :: _,_ :: _,j + 1,x,h,hx=>jd.at (j:=j) h.2.2 (by simpa using hx)
 | [],[],_,j,x,_,hx=>by simp at hx
 | [],_ :: _,_,_,_,h,_=>h.elim
 | _ :: _,[],_,_,_,h,_=>h.elim
 | _ :: _,_ :: _,[],_,_,h,_=>h.elim
theorem jd.put {x:MV} {key val:Value} (hx:aM w P noAdr x val): ∀{ks vs:List MV} {es:List MapEntry} {j:Nat} {k:MV},jd w P ks vs es→ks[j]? =some k→aM w P noAdr k key→jd w P ks (vs.set j x) (es.modify j fun e=>{ e with key,val })
 | _ :: _,_ :: _,_ :: _,0,k,h,hk,hr=>by injection hk with hk;subst hk;exact⟨hr,hx,h.2.2⟩
 | _ :: _,_ :: _,_ :: _,j + 1,k,h,hk,hr=>⟨h.1,h.2.1,jd.put hx (j:=j) h.2.2 (by simpa using hk) hr⟩
 | [],_,_,j,k,_,hk,_=>by simp at hk
 | _ :: _,[],_,_,_,h,_,_=>h.elim
 | _ :: _,_ :: _,[],_,_,h,_,_=>h.elim
theorem jd.keyAt: ∀{ks vs:List MV} {es:List MapEntry} {j:Nat} {x:MV} {e:MapEntry},jd w P ks vs es→ks[j]? =some x→es[j]? =some e→aM w P noAdr x e.key
 | _ :: _,_ :: _,_ :: _,0,x,e,h,hx,he=>by injection hx with hx;injection he with he;subst hx;subst he;exact h.1
 | _ :: _,_ :: _,_ :: _,j + 1,x,e,h,hx,he=>jd.keyAt (j:=j) h.2.2 (by simpa using hx) (by simpa using he)
 | [],_,_,j,x,_,_,hx,_=>by simp at hx
 | _ :: _,[],_,_,_,_,h,_,_=>h.elim
 | _ :: _,_ :: _,[],_,_,_,h,_,_=>h.elim
theorem BY (hb:Below w.heap.size w w') {b:MB} (h1:bf w' P (aR adr cnt w.heap.size) (aR m cnt b)) (h2:bJ w w' P P adr (aR adr cnt w.heap.size)) (hu:aM w' P (aR adr cnt w.heap.size) r u):bP w P adr m cnt r (.new b) u w':=by
 refine⟨P,_,hu,h1,h2,fun c hc=>aL _ _ hc,fun g hg=>?_,(db.of_below hb).weak fun _ e=>e.elim,fun _ _ h=> .inl h⟩;rw [aI] at hg;injection hg with hg
 exact .inl (Nat.le_of_eq hg)
theorem qK {c:Nat} {b:MB} {l:List MV} (hn:adr cnt=none) (h1:bf w' P adr (aR m c { b with l:=l })) (k:bJ w w' P P adr adr) (hb:m c=some b) (ho: ∀x,(¬ ∃c,adr c=some x)→w'.heap[x]? =w.heap[x]?) (hz:w'.heap.size=w.heap.size)
  (a1:w'.os=w.os) (a2:w'.tape=w.tape) (a3:w'.output=w.output):bP w P adr m cnt .undef (.upd c l) undef w':=by
 refine⟨P,adr, .undef,?_,k,fun _ _=>rfl,fun g hg=>(by rw [hn] at hg;cases hg),⟨a1,a2,a3,Nat.le_of_eq hz.symm,fun x _ hx=>ho x hx⟩,fun _ _ h=> .inl h⟩
 show bf w' P adr (match m c with | some b=>_ | none=>m)
 rw [hb]
 exact h1
theorem vK {s:List UInt8}: ∀{ks vs:List MV} {es:List MapEntry} {i:Nat} {r:Option Nat},jd w P ks vs es→findM s ks i=some r→
  (match r with
   | none=>Instr.findNow .string (.string ⟨s.toArray⟩) es i=some none
   | some j=> ∃n e,j=i + n∧ks[n]? =some (.str s)∧es[n]? =some e∧Instr.findNow .string (.string ⟨s.toArray⟩) es i=some (some (j,e.val)))
 | [],[],[],i,r,_,h=>by injection h with h;subst h;rfl
 | k :: ks,v :: vs,e :: es,i,r,h,hf=>by
  cases k with
  | str x=>
   have hf:(bif s == x then some (some i) else findM s ks (i + 1))=some r:=hf
   have hk:=h.1.str_
   have hb:((⟨s.toArray⟩:ByteArray) == (⟨x.toArray⟩:ByteArray))=(s == x):=by
    by_cases hx:s=x
    ·subst hx;rw [(MapKept.bytes_beq _ _).2 rfl];simp
    ·have gf: ¬ (((⟨s.toArray⟩:ByteArray) == ⟨x.toArray⟩)=true):=fun e=>hx (by have e:=(MapKept.bytes_beq _ _).1 e;injection e with e;simpa using e)
     rw [Bool.not_eq_true] at gf
     rw [gf,beq_eq_false_iff_ne.2 hx]
   cases hs:(s == x) with
   | true=>
    rw [hs] at hf
    injection hf with hf
    subst hf
    have hsx:=eq_of_beq hs
    subst hsx
    exact⟨0,e,rfl,rfl,rfl,by simp [Instr.findNow,hk,Instr.sameNow,hb,hs]⟩
   | false=>
    rw [hs] at hf
    have ih:=vK h.2.2 hf
    have oI:Instr.findNow .string (.string ⟨s.toArray⟩) (e :: es) i=Instr.findNow .string (.string ⟨s.toArray⟩) es (i + 1):=by simp [Instr.findNow,hk,Instr.sameNow,hb,hs]
    cases r with
    | none=>exact oI.trans ih
    | some j=>
     obtain⟨n,e',h1,h2,h3,h4⟩:=ih
     exact⟨n + 1,e',om,by simpa using h2,by simpa using h3,oI.trans h4⟩
  | _=>cases hf
 | [],[],_ :: _,_,_,h,_=>h.elim
 | [],_ :: _,_,_,_,h,_=>h.elim
 | _ :: _,[],_,_,_,h,_=>h.elim
 | _ :: _,_ :: _,[],_,_,h,_=>h.elim
theorem BZ {t e:TypeId} (h:OV Pg t=some e): ∃k,Pg.underlying t=some (.map k e)∧Pg.underlying k=some .string:=by
 unfold OV at h;split at h
 ·rename_i k e' ht;split at h
  ·rename_i hk;injection h with h;subst h;exact⟨k,ht,hk⟩
  ·cases h
 ·cases h
theorem vL (hT:cZ Pg T) {t:TypeId} {z:MV} (h:uT Pg T t=some z): ∃v,(zeroValue t).run Pg w= .ok v w∧aM w P noAdr z v∧z.isVal=true:=by
 unfold uT at h;split at h
 ·rename_i z' hz;cases hb:OT z'.isAgg (KD ((Pg.info? t).bind (·.zero))) with
  | false=>rw [hb] at h;cases h
  | true=>
   rw [hb] at h;injection h with h
   subst h;obtain⟨cs,h1,h2,h3⟩:=gu 9 t _ hz;have tW:=h1 [];rw [List.append_nil] at tW;obtain⟨v,hv,hc⟩:=hT.zero tW w;have dA:=h2 w P;refine⟨v,hv,?_,h3⟩;have Ey:(Pg.info? t).bind (·.zero)=some v:=by
    cases hi:Pg.info? t with
    | none=>simp [zeroValue,typeInfo,hi,unsupported] at hv
    | some it=>
     cases hzz:it.zero with
     | none=>simp [zeroValue,typeInfo,hi,hzz,unsupported] at hv
     | some z2=>simp [zeroValue,typeInfo,hi,hzz] at hv;simp [hzz,hv]
   rw [Ey] at hb;have e:v=valM z' (cs.map SV.den):=by
    unfold valM;cases ha:z'.isAgg with
    | true=>
     rw [ha] at hb;cases v with
     | agg a=>
      have hc:a.toList=cs.map SV.den:=hc
      show Value.agg a= .agg ⟨cs.map SV.den⟩
      rw [← hc]
     | _=>cases hb
    | false=>
     rw [ha] at hb;have hnv:v.cells.toList= [v] :=by
      cases v with
      | agg a=>cases hb
      | _=>rfl
     rw [hnv] at hc;rw [← hc];rfl
   rw [e];exact .val _ dA
 ·cases h
theorem ml {x:MV} {y:Value} (ok b:Bool) (hx:aM w P adr x y) (hv:x.isVal=true):aM w P adr (Ae ok x b) (if ok then .tuple #[y, .bool b] else y):=by
 cases ok with
 | false=>exact hx
 | true=>
  obtain⟨cs,h1,h2⟩:=hx.ofVal hv;refine .tup [y, .bool b] rfl fun j m u hj hu=>?_
  match j with
  | 0=>simp at hj hu;subst hj;subst hu;exact⟨cs,h1,h2⟩
  | 1=>simp at hj hu;subst hj;subst hu;exact⟨_, .bool,rfl⟩
  | j + 2=>simp at hj
theorem aM.ofNone (h:aM w P noAdr r u):aM w P adr r u:=by
 cases h with
 | val cs h=>exact .val cs h.ofNone
 | undef=>exact .undef
 | tup vs hl h=>exact .tup vs hl fun j m u h1 h2=>by obtain⟨cs,h3,h4⟩:=h j m u h1 h2;exact⟨cs,h3.ofNone,h4⟩
theorem B0 (hI:bf w P adr m) (hn:adr cnt=none) (hm:m cnt=none) {t:TypeId} (h:(BS cnt t).runP K) :
  ∃r δ y w',K (r,δ)∧(Instr.makeMap t none).run Pg w= .ok y w'∧bP w P adr m cnt r δ y w':=by
 refine⟨_,_, .map (some w.heap.size),w.alloc (.map #[] 0),h,rfl,?_⟩
 have hb:=Below.alloc1 w (.map #[] 0)
 obtain⟨h1,k⟩:=hI.newG (b:=⟨t,0,false,0,[.mpv [] []]⟩) hn hm hb (fun k=> .inr ⟨rfl,rfl,[],[],_,rfl,heap_alloc_new w _, .inl ⟨0, #[],rfl,trivial⟩⟩) (c₇ _)
 exact BY hb h1 k (.val [_] (.mp _ (aI _ _ _)))
theorem GI (hI:bf w P adr m) {c:Nat} {b:MB} {ks vs:List MV} {g:Nat} (hb:m c=some b) (hl:b.l= [.mpv ks vs]) (hg:adr c=some g): ∃o,w.heap[g]? =some o∧Aa w P ks vs o:=by
 rcases hI.blk c b hb with h1 | ⟨g',h1,h2⟩
 ·rw [hg] at h1;cases h1.2.2.1
 ·rw [hg] at h1;injection h1 with h1
  subst h1;rcases h2.has' with ⟨cur,parts,_,h3,_,h4,_⟩ | ⟨_,_,ks',vs',o,h3,h4,h5⟩
  ·rw [hl] at h3 h4
   match parts,h3 with
   | [p],_=>have:=h4 0 _ p rfl rfl;cases this
  ·rw [hl] at h3;injection h3 with h3
   injection h3 with h3 h6
   subst h3;subst h6;exact⟨o,h4,h5⟩
theorem Ai (hI:bf w P adr m) {c:Nat} {b:MB} {ks vs:List MV} {g:Nat} (hb:m c=some b) (hl:b.l= [.mpv ks vs]) (hg:adr c=some g) (hv:vs.length=ks.length): ∃Ez es,w.heap[g]? =some (.map es Ez)∧jd w P ks vs es.toList:=by
 obtain⟨o,h1,⟨Ez,es,rfl,h2⟩ | ⟨s,pos,rfl,rfl,rfl⟩⟩:=GI hI hb hl hg
 ·exact⟨Ez,es,h1,h2⟩
 ·cases hv
theorem jM {k:TypeId} (hk:Pg.underlying k=some .string) (e:Bool) (n:Nat) (s:ByteArray):(Instr.checkKey e (n + 1) k (.string s)).run Pg w= .ok () w:=by
 unfold Instr.checkKey;simp [run_underlying hk]
theorem EK (hI:bf w P adr m) (hn:adr cnt=none) {t:TypeId} {p q x:MV} (h:(gU Pg m t p q x).runP K) (hp:aM w P adr p u) (hq:aM w P adr q v) (hx:aM w P adr x y) :
  ∃δ w',K (.undef,δ)∧(Instr.mapUpdate t u v y).run Pg w= .ok () w'∧bP w P adr m cnt .undef δ undef w':=by
 unfold gU at h
 split at h
 ·rename_i c s
  split at h
  ·rename_i b hb
   split at h
   ·rename_i ks vs hl
    cases hv:(x.isVal && x.idFree) with
    | false=>rw [hv] at h;exact h.elim
    | true=>
     rw [hv] at h
     rw [a₀] at hv
     obtain⟨Xm,e,he,r,hr,h⟩:=h
     obtain⟨k,hu,Er⟩:=BZ he
     obtain⟨g,hg,rfl⟩:=hp.mp_
     rw [hq.str_]
     obtain⟨Ez,es,hw,hE⟩:=Ai hI hb hl hg Xm
     have Zt:aM w P noAdr x y:=by
      obtain⟨cs,h1,h2⟩:=hx.ofVal hv.1
      rw [h2];exact .val cs (h1.free hv.2)
     have hkr:aM w P noAdr (.str s) (.string ⟨s.toArray⟩):= .val [_] .str
     have hf:=vK hE hr
     have pL: ∀(o:Obj),(w.heap.setIfInBounds g o)[g]? =some o∧(∀r',r'≠g→(w.heap.setIfInBounds g o)[r']? =w.heap[r']?):=fun o=>MapKept.heap_set hw
     have xJ: ∃c,adr c=some g:=⟨c,hg⟩
     cases r with
     | none=>
      obtain⟨l,nd,h⟩:=h
      injection nd with nd
      subst nd
      obtain⟨h1,k1⟩:=hI.writeM (w':={ w with heap:=w.heap.setIfInBounds g (.map (es.push ⟨.string ⟨s.toArray⟩,y,Ez⟩) (Ez + 1)) }) (ks':=ks ++ [.str s]) (vs':=vs ++ [x]) hb hl hg hw (.inl ⟨Ez,es,rfl,hE⟩) (pL _).1 (pL _).2 sm (.inl ⟨_,_,rfl,by rw [Array.toList_push];exact hE.push hkr Zt⟩)
      refine⟨_,_,h,?_,qK hn h1 k1 hb (fun x hx=>(pL _).2 x fun e=>hx ⟨c,by rw [e];exact hg⟩) sm rfl rfl rfl⟩
      simp [Instr.mapUpdate,run_underlying hu,MapKept.run_getObj_map hw,jM Er,MapKept.run_findKey Er hf,MapKept.run_setObj_map _ hw]
     | some j=>
      obtain⟨l,nd,h⟩:=h
      injection nd with nd
      subst nd
      obtain⟨n,e',h1,h2,h3,h4⟩:=hf
      have h1:j=n:=om
      subst h1
      obtain⟨h5,k1⟩:=hI.writeM (w':={ w with heap:=w.heap.setIfInBounds g (.map (es.modify j fun e=>{ e with key:= .string ⟨s.toArray⟩,val:=y }) Ez) }) (ks':=ks) (vs':=vs.set j x) hb hl hg hw (.inl ⟨Ez,es,rfl,hE⟩) (pL _).1 (pL _).2 sm (.inl ⟨_,_,rfl,by rw [Array.toList_modify];exact hE.put Zt h2 hkr⟩)
      refine⟨_,_,h,?_,qK hn (by rw [setL_eq];exact h5) k1 hb (fun x hx=>(pL _).2 x fun e=>hx ⟨c,by rw [e];exact hg⟩) sm rfl rfl rfl⟩
      have hold:((es[j]?).map (·.key)).getD (.string ⟨s.toArray⟩)= .string ⟨s.toArray⟩:=by
       have pV:=jd.keyAt hE h2 h3
       have:es[j]? =some e':=by rw [← Array.getElem?_toList];exact h3
       rw [this]
       exact pV.str_
      have vk:(Instr.keyThatStays (.string ⟨s.toArray⟩) (.string ⟨s.toArray⟩)).run Pg w= .ok (.string ⟨s.toArray⟩) w:=by simp [Instr.keyThatStays,Instr.sameBits,(MapKept.bytes_beq _ _).2 rfl]
      simp [Instr.mapUpdate,run_underlying hu,MapKept.run_getObj_map hw,jM Er,MapKept.run_findKey Er h4,hold,vk,MapKept.run_setObj_map _ hw]
   ·exact h.elim
  ·exact h.elim
 ·exact h.elim
theorem EL (hT:cZ Pg T) (hI:bf w P adr m) {t:TypeId} {p q:MV} {ok:Bool} (h:(iw Pg T m t p q ok).runP K) (hp:aM w P adr p u) (hq:aM w P adr q v) :
  ∃r y,K (r, .none)∧(Instr.lookup t u v ok).run Pg w= .ok y w∧aM w P adr r y:=by
 unfold iw at h
 split at h
 ·rename_i c s
  split at h
  ·rename_i b hb
   split at h
   ·rename_i ks vs hl
    obtain⟨Xm,e,he,r,hr,h⟩:=h
    obtain⟨k,hu,Er⟩:=BZ he
    obtain⟨g,hg,rfl⟩:=hp.mp_
    rw [hq.str_]
    obtain⟨Ez,es,hw,hE⟩:=Ai hI hb hl hg Xm
    have hf:=vK hE hr
    cases r with
    | none=>
     obtain⟨z,hz,h⟩:=h
     obtain⟨zv,h1,h2,h3⟩:=vL (w:=w) (P:=P) hT hz
     refine⟨_,_,h,?_,ml ok false h2.ofNone h3⟩
     cases ok <;> simp [Instr.lookup,run_underlying hu,MapKept.run_getObj_map hw,jM Er,MapKept.run_findKey Er hf,h1]
    | some j=>
     obtain⟨x,hx,h⟩:=h
     rw [bZ] at hx
     cases hv:x.isVal with
     | false=>rw [hv] at h;exact h.elim
     | true=>
      rw [hv] at h
      obtain⟨n,e',h1,h2,h3,h4⟩:=hf
      have h1:j=n:=om
      subst h1
      obtain⟨e2,h5,h6⟩:=hE.at hx
      rw [h3] at h5
      injection h5 with h5
      subst h5
      refine⟨_,_,h,?_,ml ok true h6.ofNone hv⟩
      cases ok <;> simp [Instr.lookup,run_underlying hu,MapKept.run_getObj_map hw,jM Er,MapKept.run_findKey Er h4]
   ·exact h.elim
  ·exact h.elim
 ·exact h.elim
theorem Iw (hT:cZ Pg T) (hI:bf w P adr m) (hn:adr cnt=none) (hm:m cnt=none) {t:TypeId} {p:MV} (h:(qb T cnt t p).runP K) (hp:aM w P adr p u) :
  ∃r δ y w',K (r,δ)∧(Instr.range t u).run Pg w= .ok y w'∧bP w P adr m cnt r δ y w':=by
 unfold qb at h
 split at h
 ·rename_i s hd
  have hu:=TD.fits_str (hT.fits hd)
  rw [hp.str_]
  refine⟨_,_, .pointer (some ⟨w.heap.size,0,none⟩),w.alloc (.stringIter ⟨s.toArray⟩ 0),h,by simp [Instr.range,run_underlying hu],?_⟩
  have hb:=Below.alloc1 w (.stringIter ⟨s.toArray⟩ 0)
  obtain⟨h1,k⟩:=hI.newG (b:=⟨t,0,false,0,[.mpv [.str s] [.nilp, .int .i64 (0:Nat)]]⟩) hn hm hb (fun k=> .inr ⟨rfl,rfl,_,_,_,rfl,heap_alloc_new w _, .inr ⟨s,0,rfl,rfl,rfl⟩⟩) (c₇ _)
  exact BY hb h1 k (.val [_] (.ptr (es:=0) (k:=0) (fo:=0) (path:= []) _ (aI _ _ _)))
 ·exact h.elim
theorem KI (hI:bf w P adr m) (hn:adr cnt=none) {p:MV} {b:Bool} {ty:TypeId} (h:(mT m p b).runP K) (hp:aM w P adr p u) :
  ∃r δ y w',K (r,δ)∧(Instr.next u b ty).run Pg w= .ok y w'∧bP w P adr m cnt r δ y w':=by
 unfold mT at h
 split at h
 ·rename_i c
  split at h
  ·rename_i bb hb
   split at h
   ·rename_i s p0 hl
    obtain⟨pos,lT,r,hr,h⟩:=h
    obtain⟨g,hg,rfl⟩:=hp.ptr_
    obtain⟨o,hw,⟨Ez,es,rfl,hE⟩ | ⟨s',pos',e1,e2,rfl⟩⟩:=GI hI hb hl hg
    ·exact absurd hE.len.2 sm
    injection e1 with e1
    injection e1 with e1
    injection e2 with e2 e3
    injection e3 with e3
    injection e3 with _ e3
    subst e1 e3
    have Yj:pos=pos':=by
     unfold BT at lT
     split at lT
     ·injection lT with lT;omega
     ·cases lT
    subst Yj
    injection hr with hr
    have Yn:(getObj g).run Pg w= .ok (.stringIter ⟨s.toArray⟩ pos) w:=by simp [getObj,Sem.run,hw]
    have gM:(⟨s.toArray⟩:ByteArray).size=s.length:=by simp [ByteArray.size]
    unfold vD at hr
    generalize hdc:Utf8.decode ⟨s.toArray⟩ pos=cw at hr
    obtain⟨cc,wd⟩:=cw
    by_cases eS:pos < s.length
    ·rw [if_pos eS] at hr
     subst hr
     have pL: ∀(o:Obj),(w.heap.setIfInBounds g o)[g]? =some o∧(∀r',r'≠g→(w.heap.setIfInBounds g o)[r']? =w.heap[r']?):=fun o=>MapKept.heap_set hw
     have UB: ∀o,(setObj g o).run Pg w= .ok () { w with heap:=w.heap.setIfInBounds g o }:=fun o=>by simp [setObj,Sem.run,hw]
     obtain⟨h1,k1⟩:=hI.writeM (w':={ w with heap:=w.heap.setIfInBounds g (.stringIter ⟨s.toArray⟩ (pos + wd)) }) (ks':= [.str s]) (vs':= [.nilp, .int .i64 (pos + wd:Nat)]) hb hl hg hw (.inr ⟨s,pos,rfl,rfl,rfl⟩) (pL _).1 (pL _).2 sm (.inr ⟨s,_,rfl,rfl,rfl⟩)
     obtain⟨P',aN,_,q2,q3,q4,q5,q6,q7⟩:=qK (cnt:=cnt) hn h1 k1 hb (fun x hx=>(pL _).2 x fun e=>hx ⟨c,by rw [e];exact hg⟩) sm rfl rfl rfl
     refine⟨_,_, .tuple #[.bool true, .int .i64 pos, .int .i32 cc],_,h,?_,P',aN, .tup [.bool true, .int .i64 pos, .int .i32 cc] rfl fun j m u hj hu=>?_,q2,q3,q4,q5,q6,q7⟩
     ·simp [Instr.next,Yn,gM,eS,UB,goInt,hdc]
     ·match j with
      | 0=>simp at hj hu;subst hj;subst hu;exact⟨_, .bool,rfl⟩
      | 1=>simp at hj hu;subst hj;subst hu;exact⟨_, .int,rfl⟩
      | 2=>simp at hj hu;subst hj;subst hu;exact⟨_, .int,rfl⟩
      | j + 3=>simp at hj
    ·rw [if_neg eS] at hr
     subst hr
     have NW:aR m c { bb with l:= [.mpv [.str s] [.nilp, .int .i64 (pos:Int)]] }=m:=by
      funext x
      by_cases e:x=c
      ·subst e;rw [aI,hb,← hl]
      ·exact aL _ _ e
     obtain⟨P',aN,_,q2,q3,q4,q5,q6,q7⟩:=qK (w:=w) (w':=w) (P:=P) (cnt:=cnt) (l:= [.mpv [.str s] [.nilp, .int .i64 (pos:Int)]]) hn (by rw [NW];exact hI) (bJ.refl _ _ _) hb (fun _ _=>rfl) rfl rfl rfl rfl
     refine⟨_,_, .tuple #[.bool false],w,h,?_,P',aN, .tup [.bool false] rfl fun j m u hj hu=>?_,q2,q3,q4,q5,q6,q7⟩
     ·simp [Instr.next,Yn,gM,eS]
     ·match j with
      | 0=>simp at hj hu;subst hj;subst hu;exact⟨_, .bool,rfl⟩
      | j + 1=>simp at hj
   ·exact h.elim
  ·exact h.elim
 ·exact h.elim
theorem EM (hT:cZ Pg T) {t xT:TypeId} {p:MV} {ok:Bool} (h:(mf Pg T t ok p).runP K) (hp:aM w P adr p u): ∃r y,K (r, .none)∧(Instr.typeAssert u xT t ok).run Pg w= .ok y w∧aM w P adr r y:=by
 unfold mf at h;split at h
 ·exact h.elim
 ·exact h.elim
 ·rename_i t' q d hni H5 hd;obtain⟨x,hx⟩:=TD.fits_some (hT.fits hd);have Y6: ∀ms,x≠ .interface ms:=by
   rintro ms rfl;have UW:=hT.fits hd;unfold TD.fitsB at UW;rw [hx] at UW;simp only [a₀] at UW;cases d <;> simp_all
  have Kq: ∃cs,u= .iface t' (valM q cs)∧dk w P adr q cs:=by
   cases hp with
   | val cs h1=>cases h1 with | ifc cs h2=>exact ⟨cs,rfl,h2⟩
  obtain⟨cs,rfl,pw⟩:=Kq;split at h
  ·rename_i he;have he:=a₁ he;subst he;cases hv:q.isVal with
   | false=>rw [hv] at h;exact h.elim
   | true=>
    rw [hv] at h;refine⟨_,_,h,?_,ml ok true (.val cs pw) hv⟩;cases ok <;> cases x <;> first | exact absurd rfl (Y6 _) | simp [Instr.typeAssert,run_underlying hx]
  ·rename_i he;have he:t'≠t:=fun e=>by subst e;rw [Nat.beq_refl] at he;cases he
   cases ok with
   | false=>exact h.elim
   | true=>
    obtain⟨z,hz,h⟩:=h;obtain⟨zv,h1,h2,h3⟩:=vL (w:=w) (P:=P) hT hz;refine⟨_, .tuple #[zv, .bool false],h,?_,ml true false h2.ofNone h3⟩;cases x <;> first | exact absurd rfl (Y6 _) | simp [Instr.typeAssert,run_underlying hx,he,h1]
 ·exact h.elim
end
end
section
section
variable {Pg:Program} {T:bD} {w w':World} {P P':cB} {adr aN:gG} {m:FM} {cnt:Nat} {K:MV×Dl→Prop} {u v x y:Value} {r:MV} {E:Nat→Option MV} {a:Act}
theorem EN {v:Value} {p:MV} (h:EE v=some p):aM w P adr p v:=by
 unfold EE at h;split at h <;> first | (cases h;done) | (injection h with h;subst h)
 ·exact .val [_] .int
 ·exact .val [_] .bool
 ·rename_i s;have:(⟨s.data.toList.toArray⟩:ByteArray)=s:=by cases s;simp
  have h2:=aM.val (w:=w) (P:=P) (adr:=adr) _ (dk.str (s:=s.data.toList));rw [this] at h2;exact h2
 ·exact .val [_] .nilp
 ·exact .val [_] .nils
 ·exact .val [_] .nilf
 ·exact .val [_] .nili
 ·rename_i f;exact .val [_] (dk.fn (f:=f) (caps:= []) [] rfl (fun j m p h=>by simp at h))
def hJ (w:World) (P:cB) (adr:gG) (E:Nat→Option MV) (a:Act):Prop:= ∀t v,E t=some v→∃u,a.tmps[t]? =some u∧aM w P adr v u
theorem uU (hE:hJ w P adr E a) {x:Operand} {p:MV} (h:jL E x=some p):aM w P adr p (a.eval x):=by
 cases x with
 | tmp t=>
  obtain⟨u,h1,h2⟩:=hE t p h;simpa [Act.eval,h1] using h2
 | const v=>exact EN h
 | global g=>injection h with h;subst h;exact .val [_] .gp
 | func f=>
  injection h with h;subst h
  exact .val [_] (dk.fn (f:=f) (caps:= []) [] rfl (fun j m p h=>by simp at h))
theorem bO {A:Type} {K:A→Prop} (hE:hJ w P adr E a) {x:Operand} {k:MV→bz A} (h:(rd E x k).runP K): ∃p,(k p).runP K∧aM w P adr p (a.eval x):=by
 unfold rd at h;split at h
 ·rename_i p hp;exact⟨p,h,uU hE hp⟩
 ·exact h.elim
inductive dI (w:World) (P:cB) (adr:gG):List MV→List Value→Prop where
 | nil:dI w P adr [] []
 | cons {p v l s} (h:aM w P adr p v) (t:dI w P adr l s):dI w P adr (p :: l) (v :: s)
theorem jN {A:Type} {K:A→Prop} (hE:hJ w P adr E a): ∀{xs:List Operand} {k:List MV→bz A},(oM E xs k).runP K→∃ps,(k ps).runP K∧dI w P adr ps (xs.map a.eval)
 | [],k,h=>⟨[],h, .nil⟩
 | x :: xs,k,h=>by
  obtain⟨p,h,hp⟩:=bO hE h
  obtain⟨ps,h,pG⟩:=jN hE h
  exact⟨p :: ps,h, .cons hp pG⟩
theorem GJ {A:Type} {K:A→Prop} (hE:hJ w P adr E a) {x:Option Operand} {k:Option MV→bz A} (h:(OS E x k).runP K): ∃p,(k p).runP K∧mg w P adr p (x.map a.eval):=by
 cases x with
 | none=>exact ⟨none,h,trivial⟩
 | some x=>
  obtain⟨p,h,hp⟩:=bO hE h;exact⟨some p,h,hp⟩
theorem qd: ∀{parts:List (Nat×Operand)} {ps:List MV},dI w P adr ps ((parts.map (·.2)).map a.eval)→vF w P adr ((parts.map (·.1)).zip ps) (parts.map fun x=>(x.1,a.eval x.2))
 | [],_, .nil=>trivial
 | x :: parts,_, .cons h t=>⟨rfl,h,qd t⟩
theorem dI.caps: ∀{ps:List MV} {vs:List Value},dI w P adr ps vs→(∀p∈ps,p.isVal=true)→∃parts:List (List Value),parts.length=ps.length∧(∀(j:Nat) m p,ps[j]? =some m→parts[j]? =some p→dk w P adr m p)∧vs=a₉ valM ps parts
 | [],_, .nil,_=>⟨[],rfl,fun j m p h=>(by simp at h),rfl⟩
 | p :: ps,_, .cons h t,hv=>by
  obtain⟨parts,h1,h2,h3⟩:=t.caps fun q hq=>hv q (by simp [hq])
  obtain⟨cs,h4,h5⟩:=h.ofVal (hv p sm)
  refine⟨cs :: parts,by simp [h1],fun j m q hj hq=>?_,by rw [h3,h5];rfl⟩
  cases j with
  | zero=>simp at hj hq;subst hj;subst hq;exact h4
  | succ j=>exact h2 j m q (by simpa using hj) (by simpa using hq)
theorem kM {α β:Type} (f:α→β) (l:Array α):l.map f=(l.toList.map f).toArray:=by rw [← List.map_toArray,Array.toArray_toList]
theorem Aj {p:MV} (h:(lf p).runP K) (hp:aM w P adr p u):K (p, .none)∧((∃b,u= .pointer (some b))∨(∃f cs,u= .func (.func f) #[] cs)∨∃t z,u= .iface t z):=by
 unfold lf at h;split at h
 ·obtain⟨g,_,e⟩:=hp.ptr_;exact⟨h, .inl ⟨_,e⟩⟩
 ·exact⟨h, .inl ⟨_,hp.gp_⟩⟩
 ·obtain⟨b,o,vs,e,_⟩:=hp.ep_;exact⟨h, .inl ⟨_,e⟩⟩
 ·cases hp with | val cs h1=>cases h1 with | fn parts h2 h3=>exact ⟨h, .inr (.inl ⟨_,_,rfl⟩)⟩
 ·cases hp with | val cs h1=>cases h1 with | ifc cs h2=>exact ⟨h, .inr (.inr ⟨_,_,rfl⟩)⟩
 ·exact h.elim
theorem Ix (hT:cZ Pg T) {t:TypeId} {p:MV} (h:(vB T t p).runP K) (hp:aM w P adr p u): ∃r y,K (r, .none)∧(Instr.makeInterface t u).run Pg w= .ok y w∧aM w P adr r y:=by
 unfold vB at h;split at h
 ·exact h.elim
 ·exact h.elim
 ·rename_i d hni H5 hd;cases hf:fits d p with
  | false=>rw [hf] at h;exact h.elim
  | true=>
   rw [hf] at h;obtain⟨cs,pw,rfl,_⟩:=nu hp hf;refine⟨_, .iface t (valM p cs),h,?_, .val [_] (.ifc cs pw)⟩;obtain⟨x,hx⟩:=TD.fits_some (hT.fits hd);have Y6: ∀ms,x≠ .interface ms:=by
    rintro ms rfl;have UW:=hT.fits hd;unfold TD.fitsB at UW;rw [hx] at UW;simp only [a₀] at UW;cases d <;> simp_all
   simp only [Instr.makeInterface,Sem.run_bind,run_underlying hx,Result.andThen_ok];cases x <;> first | rfl | exact absurd rfl (Y6 _)
 ·exact h.elim
theorem EO {fn:Fn} {first:Array Operand} {ys:List MV} {cs:List Value} (h:(qG fn first ys).runP K) (hp:dI w P adr ys cs): ∃r,K (r, .none)∧aM w P adr r (.func fn (first.map a.eval) cs.toArray):=by
 unfold qG at h;split at h
 ·rename_i f hf;cases hv:ys.all MV.isVal with
  | false=>rw [hv] at h;exact h.elim
  | true=>
   rw [hv] at h;obtain⟨parts,h1,h2,rfl⟩:=hp.caps fun p hp=>b₉.1 hv p hp
   have:first= #[] :=by cases first;simpa using hf
   subst this;refine⟨_,h,?_⟩;rw [show (#[] :Array Operand).map a.eval= #[] by simp];exact .val [_] (.fn parts h1 h2)
 ·exact h.elim
theorem B8 {p:MV} {i:Nat} (h:(nr p i).runP K) (hp:aM w P adr p u): ∃r y,K (r, .none)∧(Instr.extract u i).run Pg w= .ok y w∧aM w P adr r y:=by
 unfold nr at h;split at h
 ·rename_i vs;split at h
  ·rename_i q hq;rw [bZ] at hq;cases hp with
   | val cs h1=>cases h1
   | tup us hl hr=>
    obtain⟨y,hy⟩:=dv hl hq;obtain⟨cs,h1,h2⟩:=hr i q y hq hy;refine⟨q,y,h,?_,by rw [h2];exact .val cs h1⟩;simp [Instr.extract,hy]
  ·exact h.elim
 ·exact h.elim
theorem B9 (hT:cZ Pg T) (hI:bf w P adr m) (hn:adr cnt=none) (hm:m cnt=none) {b:Builtin} {er:Array TypeId} {ty:TypeId} {ps:List MV} {vs:List Value} (h:(fA Pg T m cnt b er ps).runP K) (hp:dI w P adr ps vs) :
  ∃r δ y w',K (r,δ)∧(∀cs,(builtin b er ty cs vs.toArray).run Pg w= .ok (.value y) w')∧bP w P adr m cnt r δ y w':=by
 have lift: ∀{s:Sem Value} {v:Value} {w':World},s.run Pg w= .ok v w'→(do pure (.value (← s)):Sem Next).run Pg w= .ok (.value v) w':=by
  intro s v w' hs
  rw [Sem.run_bind,hs];rfl
 unfold fA at h
 split at h
 ·split at h
  ·cases hp with | cons h1 t=>cases t with
   | nil=>
    obtain⟨r,y,hk,hr,dA⟩:=OW (ty:=ty) hT h h1
    exact⟨r, .none,y,w,hk,fun _=>lift hr,bP.pure hI hn dA⟩
  ·exact h.elim
 ·split at h
  ·cases hp with | cons h1 t=>cases t with | cons h2 t=>cases t with
   | nil=>
    obtain⟨r,δ,y,w',hk,hr,qz⟩:=EI (ty:=ty) hT hI hn hm h h1 h2
    exact⟨r,δ,y,w',hk,fun _=>lift hr,qz⟩
  ·exact h.elim
 ·split at h
  ·rename_i k i k' j
   obtain⟨r,hr,h⟩:=h
   injection hr with hr
   subst hr
   cases hp with | cons h1 t=>cases t with | cons h2 t=>cases t with
   | nil=>
    rw [h1.int_,h2.int_]
    exact⟨_, .none,_,w,h,fun _=>lift (run_min_int2 ..),bP.pure hI hn (.val [_] .int)⟩
  ·exact h.elim
 ·split at h
  ·rename_i k i k' j
   obtain⟨r,hr,h⟩:=h
   injection hr with hr
   subst hr
   cases hp with | cons h1 t=>cases t with | cons h2 t=>cases t with
   | nil=>
    rw [h1.int_,h2.int_]
    exact⟨_, .none,_,w,h,fun _=>lift (run_max_int2 ..),bP.pure hI hn (.val [_] .int)⟩
  ·exact h.elim
 ·exact h.elim
theorem KJ (hT:cZ Pg T) (hI:bf w P adr m) (hn:adr cnt=none) (hm:m cnt=none) (hE:hJ w P adr E a) {o:Oper} (h:(jv Pg T E m cnt o).runP K) :
  ∃r δ,K (r,δ)∧Ik Pg o a w (bP w P adr m cnt r δ):=by
 have Ku: ∀{s:Sem Value} (ho:execOp a.eval o=(do pure (.value (← s)))),(∃r y,K (r, .none)∧s.run Pg w= .ok y w∧aM w P adr r y)→∃r δ,K (r,δ)∧Ik Pg o a w (bP w P adr m cnt r δ):=by
  rintro s ho ⟨r,y,hk,hr,dA⟩
  exact⟨r, .none,hk,Ik.val s ho hr (bP.pure hI hn dA)⟩
 have mem: ∀{s:Sem Value} (ho:execOp a.eval o=(do pure (.value (← s)))),(∃r δ y w',K (r,δ)∧s.run Pg w= .ok y w'∧bP w P adr m cnt r δ y w')→∃r δ,K (r,δ)∧Ik Pg o a w (bP w P adr m cnt r δ):=by
  rintro s ho ⟨r,δ,y,w',hk,hr,hp⟩
  exact⟨r,δ,hk,Ik.val s ho hr hp⟩
 have dir: ∀{p:MV} {u:Value},execOp a.eval o=pure (.value u)→K (p, .none)→aM w P adr p u→∃r δ,K (r,δ)∧Ik Pg o a w (bP w P adr m cnt r δ):=by
  intro p u ho hk hp
  exact⟨p, .none,hk, .inl ⟨u,w,by rw [ho];rfl,bP.pure hI hn hp⟩⟩
 obtain⟨dst,op,ty,pos,after,guard⟩:=o
 cases op with
 | move x=>obtain ⟨p,h,hp⟩:=bO hE h;exact dir rfl h hp
 | assign x=>obtain ⟨p,h,hp⟩:=bO hE h;exact dir rfl h hp
 | pick c b d=>
  obtain⟨pc,h,hpc⟩:=bO hE h
  obtain⟨pb,h,hpb⟩:=bO hE h
  obtain⟨pd,h,Zj⟩:=bO hE h
  cases pc with
  | bool t=>
   have hc:=hpc.bool_
   cases t with
   | true=>exact ⟨pb, .none,h.1 rfl, .inl ⟨a.eval b,w,by simp [execOp,hc,asBool],bP.pure hI hn hpb⟩⟩
   | false=>exact ⟨pd, .none,h.2 rfl, .inl ⟨a.eval d,w,by simp [execOp,hc,asBool],bP.pure hI hn Zj⟩⟩
  | _=>exact h.elim
 | alloc t=>
  replace h:(lZ T cnt t).runP K:=h
  unfold lZ at h
  split at h
  ·rename_i d z hd hz
   cases hf:fits d z with
   | false=>rw [hf] at h;exact h.elim
   | true=>
    rw [hf] at h
    obtain⟨y,w',hr,hp⟩:=KE hT hI hn hm hz hf
    exact mem (s:=Instr.alloc t true (.tuple #[])) rfl ⟨_,_,y,w',h,hr,hp⟩
  ·exact h.elim
 | box t x=>
  obtain⟨p,h,hp⟩:=bO hE h
  replace h:(BR T cnt t p).runP K:=h
  unfold BR at h
  split at h
  ·rename_i d hd
   cases hf:fits d p with
   | false=>rw [hf] at h;exact h.elim
   | true=>
    rw [hf] at h
    obtain⟨y,w',hr,hp⟩:=Td (t:=t) hI hn hm hf hp
    exact mem (s:=Instr.box t (a.eval x)) rfl ⟨_,_,y,w',h,hr,hp⟩
  ·exact h.elim
 | build t parts=>
  obtain⟨ps,h,pG⟩:=jN hE h
  refine Ku (s:=Instr.build t (parts.map fun x=>(x.1,a.eval x.2))) rfl ?_
  rw [kM]
  exact It hT h (qd pG)
 | buildSlice t n parts=>
  obtain⟨ps,h,pG⟩:=jN hE h
  refine mem (s:=Instr.buildSlice t n (parts.map fun x=>(x.1,a.eval x.2))) rfl ?_
  rw [kM]
  have hz:=qd pG
  have h9:(match oN n ((parts.toList.map (fun x:Nat×Operand=>x.1)).zip ps) with | some x=>fw T m cnt t x.1 x.2.1 x.2.2.1 x.2.2.2 | none=>eB T cnt t n ((parts.toList.map (fun x:Nat×Operand=>x.1)).zip ps)).runP K:=h
  generalize (parts.toList.map (fun x:Nat×Operand=>x.1)).zip ps=zs at h9 hz
  split at h9
  ·rename_i x hx
   obtain⟨rfl,rfl⟩:=nw hx
   generalize parts.toList.map (fun x=>(x.1,a.eval x.2))=pv at hz
   match pv,hz with
   | [(j,u)],hz=>
    obtain⟨rfl,hz,_⟩:=hz
    exact Ah hT hI hn hm h9 hz
  ·exact nv hT hI hn hm h9 hz
 | load t x=>
  obtain⟨p,h,hp⟩:=bO hE h
  exact Ku (s:=Instr.loadAt t (a.eval x)) rfl (BV hT h hp hI)
 | store t x y=>
  obtain⟨p,h,hp⟩:=bO hE h
  obtain⟨q,h,hq⟩:=bO hE h
  obtain⟨δ,w',hk,hr,qz⟩:=Ip hT h hp hq hI hn
  exact⟨_,δ,hk,Ik.unit (Instr.storeAt t (a.eval x) (a.eval y)) rfl hr qz⟩
 | nilCheck x=>
  obtain⟨p,h,hp⟩:=bO hE h
  obtain⟨hk,hu⟩:=Aj h hp
  refine⟨p, .none,hk, .inl ⟨a.eval x,w,?_,bP.pure hI hn hp⟩⟩
  rcases hu with ⟨b,e⟩ | ⟨f,cs,e⟩ | ⟨t,z,e⟩ <;> simp [execOp,e]
 | binOp op t x y Ob=>
  obtain⟨p,h,hp⟩:=bO hE h
  obtain⟨q,h,hq⟩:=bO hE h
  exact Ku (s:=do eqGuard op t x y (a.eval x) (a.eval y);binOp op t (a.eval x) (a.eval y)) rfl (O0 hT h hp hq)
 | unOp op t x=>
  obtain⟨p,h,hp⟩:=bO hE h
  exact Ku (s:=Op.unary op (a.eval x)) rfl (Tc h hp)
 | convert src dst' x=>
  obtain⟨p,h,hp⟩:=bO hE h
  obtain⟨r,y,w',hk,hr,qz⟩:=KF hT hI hn h hp
  exact mem (s:=convert src dst' (a.eval x)) rfl ⟨r, .none,y,w',hk,hr,qz⟩
 | makeInterface t x=>
  obtain⟨p,h,hp⟩:=bO hE h
  exact Ku (s:=Instr.makeInterface t (a.eval x)) rfl (Ix hT h hp)
 | makeFunc fn first captured=>
  obtain⟨ps,h,pG⟩:=jN hE h
  obtain⟨r,hk,hr⟩:=EO (a:=a) h pG
  refine dir ?_ hk hr
  show(do pure (.value (← Instr.makeFunc fn (first.map a.eval) (captured.map a.eval))):Sem Next)=_
  rw [kM a.eval captured]
  rfl
 | makeSlice t l c=>
  obtain⟨p,h,hp⟩:=bO hE h
  obtain⟨q,h,hq⟩:=bO hE h
  exact mem (s:=Instr.makeSlice t (a.eval l) (a.eval c)) rfl (yg hT hI hn hm h hp hq)
 | slice t x lo hi mx=>
  cases mx with
  | some _=>exact h.elim
  | none=>
   obtain⟨p,h,hp⟩:=bO hE h
   obtain⟨pl,h,hl⟩:=GJ hE h
   obtain⟨ph,h,hh⟩:=GJ hE h
   exact mem (s:=Instr.sliceAt t (a.eval x) (lo.map a.eval) (hi.map a.eval) none) rfl (EJ hT hI hn h hp hl hh)
 | fieldAddr t x f=>
  obtain⟨p,h,hp⟩:=bO hE h
  exact Ku (s:=Instr.fieldAt t (a.eval x) f) rfl (ye hT h hp)
 | field t x f=>
  obtain⟨p,h,hp⟩:=bO hE h
  exact Ku (s:=Instr.field t (a.eval x) f) rfl (Ir hT h hp)
 | indexAddr t x ix=>
  obtain⟨p,h,hp⟩:=bO hE h
  obtain⟨q,h,hq⟩:=bO hE h
  exact Ku (s:=Instr.indexAt t (a.eval x) (a.eval ix)) rfl (yf hT h hp hq)
 | index t x ix=>
  obtain⟨p,h,hp⟩:=bO hE h
  obtain⟨q,h,hq⟩:=bO hE h
  exact Ku (s:=Instr.index t (a.eval x) (a.eval ix)) rfl (Iq hT h hp hq)
 | extract x i=>
  obtain⟨p,h,hp⟩:=bO hE h
  exact Ku (s:=Instr.extract (a.eval x) i) rfl (B8 h hp)
 | makeMap t r=>
  cases r with
  | some _=>exact h.elim
  | none=>exact mem (s:=Instr.makeMap t none) rfl (B0 hI hn hm h)
 | mapUpdate t p k x=>
  obtain⟨p',h,hp⟩:=bO hE h
  obtain⟨q,h,hq⟩:=bO hE h
  obtain⟨x',h,hx⟩:=bO hE h
  obtain⟨δ,w',hk,hr,qz⟩:=EK hI hn h hp hq hx
  exact⟨_,δ,hk,Ik.unit (Instr.mapUpdate t (a.eval p) (a.eval k) (a.eval x)) rfl hr qz⟩
 | lookup t p k ok=>
  obtain⟨p',h,hp⟩:=bO hE h
  obtain⟨q,h,hq⟩:=bO hE h
  exact Ku (s:=Instr.lookup t (a.eval p) (a.eval k) ok) rfl (EL hT hI h hp hq)
 | range t x=>
  obtain⟨p,h,hp⟩:=bO hE h
  exact mem (s:=Instr.range t (a.eval x)) rfl (Iw hT hI hn hm h hp)
 | next x b=>
  obtain⟨p,h,hp⟩:=bO hE h
  exact mem (s:=Instr.next (a.eval x) b ty) rfl (KI hI hn h hp)
 | typeAssert x xT t ok=>
  obtain⟨p,h,hp⟩:=bO hE h
  exact Ku (s:=Instr.typeAssert (a.eval x) xT t ok) rfl (EM hT h hp)
 | call c=>
  obtain⟨callee,args,er⟩:=c
  cases callee with
  | value f=>exact h.elim
  | invoke r n=>exact h.elim
  | builtin b=>
   obtain⟨ps,h,pG⟩:=jN hE h
   obtain⟨r,δ,y,w',hk,hr,qz⟩:=B9 (ty:=ty) hT hI hn hm h pG
   refine⟨r,δ,hk, .inl ⟨y,w',?_,qz⟩⟩
   rw [← kM] at hr
   have e:execOp a.eval ⟨dst, .call ⟨.builtin b,args,er⟩,ty,pos,after,guard⟩=builtin b er ty (args.map fun | .const _=>true | _=>false) (args.map a.eval):=by
    simp [execOp,resolve,invoke]
    rfl
   rw [e]
   exact hr _
 | _=>exact h.elim
end
end
section
theorem VE.get_cons {E:VE} {d t:Nat} {v:MV}:VE.get ((d,v) :: E) t=if d=t then some v else VE.get E t:=by
 show(bif a₂ d t then some v else VE.get E t)=_
 by_cases h:d=t
 ·subst h;simp
 ·simp [ir h,h]
theorem VM.get_cons {M:VM} {d t:Nat} {v:MB}:VM.get ((d,v) :: M) t=if d=t then some v else VM.get M t:=by
 show(bif a₂ d t then some v else VM.get M t)=_
 by_cases h:d=t
 ·subst h;simp
 ·simp [ir h,h]
theorem VM.del_cons {M:VM} {d t:Nat} {v:MB}:VM.del ((d,v) :: M) t=if d=t then VM.del M t else(d,v) :: VM.del M t:=by
 show(bif a₂ d t then VM.del M t else(d,v) :: VM.del M t)=_
 by_cases h:d=t
 ·subst h;simp
 ·simp [ir h,h]
theorem VM.upd_cons {M:VM} {d t:Nat} {v:MB} {l:List MV}:VM.upd ((d,v) :: M) t l=if d=t then(d,{ v with l:=l }) :: VM.upd M t l else(d,v) :: VM.upd M t l:=by
 show(bif a₂ d t then _ else _)=_
 by_cases h:d=t
 ·subst h;simp
 ·simp [ir h,h]
theorem VM.bump1_cons {M:VM} {d t n:Nat} {v:MB}:VM.bump1 ((d,v) :: M) t n=if d=t then(d,{ v with pe:=b₀ v.pe n }) :: VM.bump1 M t n else(d,v) :: VM.bump1 M t n:=by
 show(bif a₂ d t then _ else _)=_
 by_cases h:d=t
 ·subst h;simp
 ·simp [ir h,h]
theorem VM.get_del: ∀(M:VM) (c x:Nat),VM.get (VM.del M c) x=jJ (VM.get M) c x
 | [],c,x=>by simp [VM.del,VM.get,jJ]
 | (d,v) :: M,c,x=>by
  have ih:=VM.get_del M c x
  unfold jJ at ih ⊢
  rw [VM.del_cons,VM.get_cons]
  by_cases h:d=c
  ·subst h
   rw [if_pos rfl,ih]
   by_cases hx:x=d
   ·simp [hx]
   ·simp [hx,Ne.symm hx]
  ·rw [if_neg h,VM.get_cons,ih]
   by_cases hx:x=c
   ·subst hx;simp [h]
   ·by_cases hd:d=x <;> simp [hx,hd]
theorem VM.get_upd: ∀(M:VM) (c x:Nat) (l:List MV),VM.get (VM.upd M c l) x=(match VM.get M c with | some b=>aR (VM.get M) c { b with l:=l } | none=>VM.get M) x
 | [],c,x,l=>by simp [VM.upd,VM.get]
 | (d,v) :: M,c,x,l=>by
  have ih:=VM.get_upd M c x l
  rw [VM.upd_cons,VM.get_cons]
  by_cases h:d=c
  ·subst h
   rw [if_pos rfl,if_pos rfl,VM.get_cons]
   show _=aR _ d _ x
   unfold aR
   by_cases hx:d=x
   ·subst hx;simp
   ·rw [if_neg hx,if_neg (Ne.symm hx),VM.get_cons,if_neg hx,ih]
    cases VM.get M d with
    | none=>rfl
    | some b=>exact aL _ _ (Ne.symm hx)
  ·rw [if_neg h,if_neg h,VM.get_cons]
   by_cases hx:d=x
   ·subst hx
    rw [if_pos rfl]
    cases VM.get M c with
    | none=>simp [VM.get_cons]
    | some b=>show _=aR _ c _ d;rw [aL _ _ h,VM.get_cons,if_pos rfl]
   ·rw [if_neg hx,ih]
    cases VM.get M c with
    | none=>simp [VM.get_cons,hx]
    | some b=>
     show aR _ c _ x=aR _ c _ x
     unfold aR
     by_cases hc:x=c
     ·simp [hc]
     ·simp [hc,VM.get_cons,hx]
theorem VM.get_bump1: ∀(M:VM) (c x n:Nat),VM.get (VM.bump1 M c n) x=(match VM.get M c with | some b=>aR (VM.get M) c { b with pe:=b₀ b.pe n } | none=>VM.get M) x
 | [],c,x,l=>by simp [VM.bump1,VM.get]
 | (d,v) :: M,c,x,l=>by
  have ih:=VM.get_bump1 M c x l
  rw [VM.bump1_cons,VM.get_cons]
  by_cases h:d=c
  ·subst h
   rw [if_pos rfl,if_pos rfl,VM.get_cons]
   show _=aR _ d _ x
   unfold aR
   by_cases hx:d=x
   ·subst hx;simp
   ·rw [if_neg hx,if_neg (Ne.symm hx),VM.get_cons,if_neg hx,ih]
    cases VM.get M d with
    | none=>rfl
    | some b=>exact aL _ _ (Ne.symm hx)
  ·rw [if_neg h,if_neg h,VM.get_cons]
   by_cases hx:d=x
   ·subst hx
    rw [if_pos rfl]
    cases VM.get M c with
    | none=>simp [VM.get_cons]
    | some b=>show _=aR _ c _ d;rw [aL _ _ h,VM.get_cons,if_pos rfl]
   ·rw [if_neg hx,ih]
    cases VM.get M c with
    | none=>simp [VM.get_cons,hx]
    | some b=>
     show aR _ c _ x=aR _ c _ x
     unfold aR
     by_cases hc:x=c
     ·simp [hc]
     ·simp [hc,VM.get_cons,hx]
theorem VM.get_bump: ∀(l:List (Nat×Nat)) (M:VM),VM.get (VM.bump M l)=dH (VM.get M) l
 | [],M=>rfl
 | (c,n) :: l,M=>by
  rw [VM.bump,VM.get_bump l,dH]
  congr 1
  funext x
  exact VM.get_bump1 M c x n
theorem Dl.get_app (cnt:Nat) (δ:Dl) (M:VM):VM.get (δ.app cnt M)=δ.appF cnt (VM.get M):=by
 funext x;cases δ with
 | none=>rfl
 | new b=>
  show VM.get ((cnt,b) :: M) x=aR _ _ _ x
  rw [VM.get_cons];unfold aR;by_cases h:cnt=x
  ·simp [h]
  ·simp [h,Ne.symm h]
 | upd c l=>exact VM.get_upd M c x l
 | mv c b=>
  show VM.get ((cnt,b) :: VM.del M c) x=aR (jJ _ c) cnt b x
  rw [VM.get_cons,VM.get_del];unfold aR;by_cases h:cnt=x
  ·simp [h]
  ·simp [h,Ne.symm h]
 | bump l=>show VM.get (VM.bump M l) x=_;rw [VM.get_bump];rfl
section
variable {w w':World} {P P':cB} {adr aN:gG} {m m0:FM}
def fX (m0 m:FM):Prop:= ∀c b,m0 c=some b→∃b',m c=some b'∧b'.l=b.l∧b'.row=b.row∧b'.es=b.es∧b'.ty=b.ty
theorem fX.refl (m:FM):fX m m:=fun _c b h=>⟨b,h,rfl,rfl,rfl,rfl⟩
theorem fX.bump (h:fX m0 m) (c n:Nat):fX m0 (match m c with | some b=>aR m c { b with pe:=b₀ b.pe n } | none=>m):=by
 intro x b hb;obtain⟨b',h1,h2,h3,h4,h5⟩:=h x b hb;cases hc:m c with
 | none=>exact ⟨b',h1,h2,h3,h4,h5⟩
 | some y=>
  by_cases e:x=c
  ·subst e;rw [hc] at h1;injection h1 with h1
   subst h1;exact⟨_,aI _ _ _,h2,h3,h4,h5⟩
  ·exact⟨b',by rw [← h1];exact aL _ _ e,h2,h3,h4,h5⟩
theorem sW: ∀(l r:List (Nat×Nat)) (m:FM),dH m (l ++ r)=dH (dH m l) r
 | [],r,m=>rfl
 | (c,n) :: l,r,m=>by
  show dH _ (l ++ r)=dH (dH _ l) r
  exact sW l r _
def Zz (w:World) (P:cB) (adr:gG) (m:FM) (bs:List (Nat×Nat)) (R:cB→Prop):Prop:=
 ∃P',bf w P' adr (dH m bs)∧bJ w w P P' adr adr∧(∀x o,P' x o→P x o∨∃c,adr c=some x)∧R P'
mutual
theorem KK: ∀{p:MV} {cs:List Value} {K:MV×List (Nat×Nat)→Prop} {P:cB} {m:FM},(dO m0 p).runP K→dk w P adr p cs→fX m0 m→bf w P adr m→
  ∃p' bs,K (p',bs)∧p'.isAgg=p.isAgg∧fX m0 (dH m bs)∧Zz w P adr m bs fun P'=>dk w P' noAdr p' cs
 | p,cs,K,P,m,h,hp,hs,hI=>by
  have keep:(bz.ret (p,[])).runP K→dk w P noAdr p cs→∃p' bs,K (p',bs)∧p'.isAgg=p.isAgg∧fX m0 (dH m bs)∧Zz w P adr m bs fun P'=>dk w P' noAdr p' cs:=
   fun h hr=>⟨p,[],h,rfl,hs,P,hI,bJ.refl _ _ _,fun _ _ h=> .inl h,hr⟩
  cases hp with
  | int=>exact keep h .int
  | bool=>exact keep h .bool
  | str=>exact keep h .str
  | nilp=>exact keep h .nilp
  | ptr g hg=>
   rename_i c es k fo path
   simp only [dO] at h
   split at h
   ·rename_i b hb
    cases he:a₂ b.es es with
    | false=>rw [he] at h;exact h.elim
    | true=>
     rw [he] at h
     obtain⟨v,hv,h⟩:=h
     cases hf:v.idFree with
     | false=>rw [hf] at h;exact h.elim
     | true=>
      rw [hf] at h
      have ej:=a₁ he
      obtain⟨b',px,e1,e2,e3,e4⟩:=hs c b hb
      rcases hI.blk c b' px with h1 | ⟨g',h1,h2⟩
      ·rw [hg] at h1;cases h1.2.2.1
      ·rw [hg] at h1
       injection h1 with h1
       subst h1
       have mZ:k + 1≤b'.l.length:=by
        rw [e1]
        have:=(bZ b.l k).symm.trans hv
        exact(a₃.1 this).1
       obtain⟨P',a1,a2,a3,a4⟩:=hI.bump1 px (n:=k + 1) mZ
       have e5:dH m [(c,k + 1)] =aR m c { b' with pe:=b₀ b'.pe (k + 1) }:=by
        show(match m c with | some b=>_ | none=>m)=_
        rw [px]
       obtain⟨cur,parts,c1,c2,c3,c4,c5⟩:=h2.ofX (k:=k) (x:=v) (by rw [e1];exact(bZ b.l k).symm.trans hv) (fun ks vs e=>by subst e;cases hf)
       have jD:parts.length=b'.l.length:=c2
       have hk:k < parts.length:=om
       have pH: ∀p∈parts,p.length=es:=fun p hp=>by rw [c3 p hp,e3,ej]
       have El:parts[k]? =some parts[k] :=by simp [hk]
       have dA:=c4 k v parts[k] (by rw [e1];exact(bZ b.l k).symm.trans hv) El
       refine⟨.ep v fo path,[(c,k + 1)],h,rfl,hs.bump c (k + 1),P',by rw [e5];exact a1,a2,a3,?_⟩
       refine .ep g (k * es) parts[k] (fun j u hj=>?_) ((dA.free hf).ofNone.keep (a2.same _))
       have xX:=(a₃.1 hj).1
       rw [pH _ (d₀ hk)] at xX
       refine⟨?_,a4 g hg _ ?_⟩
       ·rw [cell_of_row w g _ cur b'.ty (0,0) c1]
        have:=eH c5 (eu pH k 1 (x:=u) (by
         have:(parts.drop k).take 1= [parts[k]] :=by rw [c₆ hk];rfl
         rw [this];simpa using hj) om)
        simpa using this
       ·rw [e3,ej,c₃];omega
   ·exact h.elim
  | gp=>exact keep h .gp
  | ep b o vs hc hr=>exact keep h (.ep b o vs hc hr)
  | sl A cap es parts h1 h2 h3 h4 h5 h6 h7=>exact keep h (.sl A cap es parts h1 h2 h3 h4 h5 h6 h7)
  | nils=>
   refine⟨.sl 0 [],[],h,rfl,hs,P,hI,bJ.refl _ _ _,fun _ _ h=> .inl h,?_⟩
   exact .sl none 0 0 [] rfl rfl (fun p hp=>nomatch hp) (fun _=>⟨rfl,rfl⟩) (b₂ _) (fun h=>absurd rfl h) (fun j m p h=>by simp at h)
  | ms0=>
   rename_i c es
   simp only [dO] at h
   split at h
   ·rename_i b hb
    split at h
    ·rename_i dP
     obtain⟨hle,l,hl,h⟩:=h
     injection hl with hl
     have Ke:l= [] :=by rw [← hl];simp [cutL]
     subst Ke
     obtain⟨b',px,e1,e2,e3,e4⟩:=hs c b hb
     obtain⟨P',a1,a2,a3,a4⟩:=hI.bump1 px (n:=0 + 0) (c₇ _)
     have e5:dH m [(c,0 + 0)] =aR m c { b' with pe:=b₀ b'.pe (0 + 0) }:=by
      show(match m c with | some b=>_ | none=>m)=_
      rw [px]
     refine⟨.sl 0 [],[(c,0 + 0)],h,rfl,?_,P',by rw [e5];exact a1,a2,a3,?_⟩
     ·exact hs.bump c (0 + 0)
     ·exact .sl none 0 0 [] rfl rfl (fun p hp=>nomatch hp) (fun _=>⟨rfl,rfl⟩) (b₂ _) (fun h=>absurd rfl h) (fun j m p h=>by simp at h)
    ·exact h.elim
   ·exact h.elim
  | ms g o cap hg ho iq sE gM=>
   rename_i c es off n
   simp only [dO] at h
   split at h
   ·rename_i b hb
    split at h
    ·rename_i dP
     obtain⟨hle,l,hl,h⟩:=h
     injection hl with hl
     subst hl
     obtain⟨b',px,e1,e2,e3,e4⟩:=hs c b hb
     rcases hI.blk c b' px with h1 | ⟨g',h1,h2⟩
     ·rw [hg] at h1;cases h1.2.2.1
     ·rw [hg] at h1
      injection h1 with h1
      subst h1
      obtain⟨P',a1,a2,a3,a4⟩:=hI.bump1 px (n:=off + n) (by rw [e1];exact hle)
      have e5:dH m [(c,off + n)] =aR m c { b' with pe:=b₀ b'.pe (off + n) }:=by
       show(match m c with | some b=>_ | none=>m)=_
       rw [px]
      obtain⟨cur,parts,c1,c2,c3,c4,c5⟩:=h2.ofR (by rw [e2];exact(a₀ _ _▸dP).1)
      rw [a₀] at dP
      have ej:=a₁ dP.2
      rw [e2,dP.1] at c4
      have qw:(cutL b.l off (off + n)).length=n:=by unfold cutL;rw [a₅,a₆];omega
      have jD:parts.length=b.l.length:=by rw [c2,e1]
      have pH: ∀p∈parts,p.length=es:=fun p hp=>by rw [c3 p hp,e3,ej]
      have fF: ∀p∈(parts.drop off).take n,p.length=es:=fun p hp=>pH p (b₇ (b₈ hp))
      have oE:((parts.drop off).take n).length=n:=by rw [a₅,a₆];omega
      refine⟨.sl n (cutL b.l off (off + n)),[(c,off + n)],h,rfl,hs.bump c (off + n),P',by rw [e5];exact a1,a2,a3,?_⟩
      refine .sl (some ⟨g,o,none⟩) cap es ((parts.drop off).take n) qw oE fF (fun h=>nomatch h) iq (fun uD=>⟨g,o,rfl,fun j u hj=>?_⟩) fun j x p hx hp=>?_
      ·have ho:=ho (.inl uD)
       subst ho
       have xX:=(a₃.1 hj).1
       rw [aU fF,oE] at xX
       refine⟨?_,a4 g hg _ ?_⟩
       ·rw [cell_of_row w g _ cur b'.ty (0,0) c1]
        have:=eH c5 (eu pH off n hj om)
        simpa using this
       ·rw [e3,ej,c₃];omega
      ·obtain⟨hx,hj⟩:=ka hx
       rw [c₁] at hp
       split at hp
       ·rw [c₂] at hp
        exact(c4 _ x p (by rw [e1];exact hx) hp).keep (a2.same noAdr)
       ·cases hp
    ·exact h.elim
   ·exact h.elim
  | fn parts hl hr=>
   rename_i f l
   simp only [dO] at h
   obtain⟨l',bs,h,ha,h2,P',h3,h4,h5,h6,h7⟩:=uV (bz.bind_runP.1 h) hl hr hs hI
   refine⟨.fn f l',bs,h,rfl,h2,P',h3,h4,h5,?_⟩
   have e:a₉ valM l parts=a₉ valM l' parts:=by
    have key: ∀(l l':List MV) (parts:List (List Value)),l'.map MV.isAgg=l.map MV.isAgg→a₉ valM l parts=a₉ valM l' parts:=by
     intro l
     induction l with
     | nil=>intro l' parts h;cases l' with | nil=>rfl | cons a b=>simp at h
     | cons a l ih=>
      intro l' parts h
      cases l' with
      | nil=>simp at h
      | cons a' l'=>
       simp only [c₅,List.cons.injEq] at h
       cases parts with
       | nil=>rfl
       | cons q parts=>
        simp only [c₈]
        rw [ih l' parts h.2]
        congr 1
        unfold valM
        rw [h.1]
    exact key l l' parts ha
   rw [e]
   exact .fn parts h6 h7
  | nilf=>exact keep h .nilf
  | mp g hg=>simp only [dO] at h;exact h.elim
  | nili=>exact keep h .nili
  | ifc cs hr=>
   rename_i t v
   simp only [dO] at h
   obtain⟨v',bs,h,ha,h2,P',h3,h4,h5,h6⟩:=KK (bz.bind_runP.1 h) hr hs hI
   refine⟨.ifc t v',bs,h,rfl,h2,P',h3,h4,h5,?_⟩
   have e:valM v cs=valM v' cs:=by unfold valM;rw [ha]
   rw [e]
   exact .ifc cs h6
  | st parts hl hr=>
   rename_i l
   simp only [dO] at h
   obtain⟨l',bs,h,ha,h2,P',h3,h4,h5,h6,h7⟩:=uV (bz.bind_runP.1 h) hl hr hs hI
   exact⟨.st l',bs,h,rfl,h2,P',h3,h4,h5, .st parts h6 h7⟩
  | arr parts h1 h2 h3 h4=>exact keep h (.arr parts h1 h2 h3 h4)
theorem uV: ∀{l:List MV} {parts:List (List Value)} {K:List MV×List (Nat×Nat)→Prop} {P:cB} {m:FM},(gN m0 l).runP K→parts.length=l.length→(∀(j:Nat) x p,l[j]? =some x→parts[j]? =some p→dk w P adr x p)→fX m0 m→bf w P adr m→
  ∃l' bs,K (l',bs)∧l'.map MV.isAgg=l.map MV.isAgg∧fX m0 (dH m bs)∧Zz w P adr m bs fun P'=>parts.length=l'.length∧∀(j:Nat) x p,l'[j]? =some x→parts[j]? =some p→dk w P' noAdr x p
 | [],[],K,P,m,h,_,_,hs,hI=>⟨[],[],h,rfl,hs,P,hI,bJ.refl _ _ _,fun _ _ h=> .inl h,rfl,fun j x p h=>by simp at h⟩
 | x :: l,q :: parts,K,P,m,h,hl,hr,hs,hI=>by
  have h:(dO m0 x).runP fun a=>(gN m0 l).runP fun r=>K (a.1 :: r.1,a.2 ++ r.2):=by
   simp only [gN] at h
   exact h
  obtain⟨x',bs,h,ha,tX,P1,i1,k1,p1,r1⟩:=KK h (hr 0 x q rfl rfl) hs hI
  obtain⟨l',bs2,h,jF,jc,P2,i2,k2,p2,nd,r2⟩:=uV h (by simpa using hl) (fun j y p hy hp=>(hr (j + 1) y p hy hp).keep k1) tX i1
  refine⟨x' :: l',bs ++ bs2,h,by simp [ha,jF],by rw [sW];exact jc,P2,by rw [sW];exact i2,k1.trans k2,fun x o hp=>?_,by simp [nd],fun j y p hy hp=>?_⟩
  ·rcases p2 x o hp with hp | hp
   ·exact p1 x o hp
   ·exact .inr hp
  ·cases j with
   | zero=>simp at hy hp;subst hy;subst hp;exact r1.keep (k2.same noAdr)
   | succ j=>exact r2 j y p (by simpa using hy) (by simpa using hp)
 | [],_ :: _,_,_,_,_,h,_,_,_=>by simp at h
 | _ :: _,[],_,_,_,_,h,_,_,_=>by simp at h
end
end
end
section
structure GS where
 ok:World→Prop
 L:Nat→Prop
 lt: ∀w g,ok w→L g→g < w.heap.size
 stab: ∀w w' (ex:Fp),ok w→(∀g,ex g→¬ L g)→db ex w w'→ok w'
structure Iy where
 ex:Fp
 adr0:gG
 n0:Nat
 lt: ∀c g,adr0 c=some g→c < n0
def KN:Iy:=⟨fun _=>False,noAdr,0,fun _ _ h=>nomatch h⟩
def aE (Pg:Program) (G:GS) (f:FuncId) (args:List MV) (res:MV):Prop:=
 ∀(w:World) (P:cB) (dY:List Value),G.ok w→(∀b o,P b o→b < w.heap.size)→dI w P noAdr args dY→
  Calls Pg f dY.toArray w fun e w'=> ∃v,e= .returned v∧aM w' (jK w w' P) noAdr res v∧Below w.heap.size w w'
def sN (o:Oper):Nat:=match o.op with
 | .alloc _=>1
 | .box .. =>1
 | .buildSlice _ n _=>match n with
  | 1=>3
  | _=>1
 | .makeSlice .. =>1
 | .load .. =>2
 | .slice .. =>2
 | .convert .. =>2
 | .store .. =>3
 | .makeMap .. =>1
 | .range .. =>1
 | .next .. =>3
 | .lookup .. =>2
 | .mapUpdate .. =>3
 | .call c=>match c.callee with
  | .builtin .append=>3
  | .builtin _=>0
  | _=>2
 | _=>0
def okC:Nat→Nat→Bool
 | 0,_=>true
 | _,0=>true
 | 1,1=>true
 | 2,1=>true
 | 2,2=>true
 | _,_=>false
def vN (ops:Array Oper):Nat→Nat→Nat→Bool
 | 0,_,_=>false
 | f + 1,y,x=>match ops[y]? with
  | some o=>o.after.toList.any fun e=>Region.binds .any e && (a₂ e.on x || vN ops f e.on x)
  | none=>false
abbrev VK:=VE→VM→Nat→Prop
section
variable (Pg:Program) (T:bD) (N:Nat) (ents:List FuncId) (G:GS)
def eY (dst:Option Tmp) (r:MV) (E:VE) (K:VE→Prop):Prop:=match dst with
 | none=>K E
 | some d=>match b₁ d N with
  | true=>K ((d,r) :: E)
  | false=>False
def ud (E:VE) (M:VM) (f:Operand) (args:List Operand):bz (FuncId×List MV×List (Nat×Nat)):=
 rd (VE.get E) f fun fv=>oM (VE.get E) args fun vs=>match fv with
  | .fn f0 caps=>(gN (VM.get M) (vs ++ caps)).bind fun r=> .ret (f0,r.1,r.2)
  | _=> .bad
def yh (o:Oper) (E:VE) (M:VM) (n:Nat) (K:MV→VM→Prop):Prop:=match o.op with
 | .call c=>match c.callee with
  | .value f=>(ud E M f c.args.toList).runP fun x=>match ents.contains x.1 with
   | true=> ∃res,aE Pg G x.1 x.2.1 res∧K res (VM.bump M x.2.2)
   | false=>False
  | _=>(jv Pg T (VE.get E) (VM.get M) n o).runP fun x=>K x.1 (x.2.app n M)
 | _=>(jv Pg T (VE.get E) (VM.get M) n o).runP fun x=>K x.1 (x.2.app n M)
def sX:Nat→List MV→VE
 | _,[] => []
 | i,v :: l=>(i,v) :: sX (i + 1) l
end
structure jG (w0:World) (ex0:Iy) (P0:cB) (w:World) (P:cB) (adr:gG):Prop where
 in_: ∀c g,adr c=some g→w0.heap.size≤g∨ex0.ex g
 old: ∀c,c < ex0.n0→adr c=ex0.adr0 c
 keep:bJ w0 w P0 P ex0.adr0 adr
structure qL (N:Nat) (w0:World) (ex0:Iy) (P0:cB) (E:Nat→Option MV) (m:FM) (n:Nat) (a:Act) (w:World):Prop where
 ex: ∃P adr,bf w P adr m∧hJ w P adr E a∧(∀c,n≤c→adr c=none)∧jG w0 ex0 P0 w P adr∧(∀b o,P b o→P0 b o∨w0.heap.size≤b∨ex0.ex b)
 fresh: ∀c,n≤c→m c=none
 ge:ex0.n0≤n
 since:db ex0.ex w0 w
 defers:a.defers= []
 size:a.tmps.size=N
section
variable {Pg:Program} {T:bD} {N:Nat} {ents:List FuncId} {G:GS} {w0 w w':World} {ex0:Iy} {P0 P:cB} {adr:gG} {E:VE} {M:VM} {m:FM} {n:Nat} {a:Act} {r:MV} {u:Value} {δ:Dl}
theorem hJ.put (hE:hJ w' P adr (VE.get E) a) (hs:a.tmps.size=N) {d:Nat} (hd:d < N) (h:aM w' P adr r u):hJ w' P adr (VE.get ((d,r) :: E)) (a.put (some d) u):=by
 intro t v ht;rw [VE.get_cons] at ht;simp only [Act.put,Array.getElem?_setIfInBounds];split at ht
 ·rename_i e;subst e;injection ht with ht
  subst ht;exact⟨u,by simp [hs,hd],h⟩
 ·rename_i e;rw [if_neg e];exact hE t v ht
theorem qL.post (hs:qL N w0 ex0 P0 (VE.get E) (VM.get M) n a w) {E2:VE} (_hI:bf w P adr (VM.get M)) (hE:hJ w P adr (VE.get E2) a) (hn: ∀c,n≤c→adr c=none) (hg:jG w0 ex0 P0 w P adr) (hp: ∀b o,P b o→P0 b o∨w0.heap.size≤b∨ex0.ex b)
  (qz:bP w P adr (VM.get M) n r δ u w') {dst:Option Tmp} {K:VE→Prop} (hK:eY N dst r E2 K): ∃E',K E'∧qL N w0 ex0 P0 (VE.get E') (VM.get (δ.app n M)) (n + 1) (a.put dst u) w':=by
 obtain⟨P',aN,h1,h2,h3,h4,h5,h6,h7⟩:=qz
 have YC:hJ w' P' aN (VE.get E2) a:=fun t v ht=>by
  obtain⟨u,e1,e2⟩:=hE t v ht
  exact⟨u,e1,e2.keep h3⟩
 have oJ:=hs.since.size
 have common: ∀{E':VE} {a':Act},hJ w' P' aN (VE.get E') a'→a'.defers= [] →a'.tmps.size=N→qL N w0 ex0 P0 (VE.get E') (VM.get (δ.app n M)) (n + 1) a' w':=by
  intro E' a' e1 e2 e3
  refine⟨⟨P',aN,by rw [Dl.get_app];exact h2,e1,fun c hc=>?_,⟨fun c g hc=>?_,fun c hc=>(h4 c (by have:=hs.ge;omega)).trans (hg.old c hc),hg.keep.trans h3⟩,fun b o ho=>?_⟩,fun c hc=>?_,by have:=hs.ge;omega,?_,e2,e3⟩
  ·rw [h4 c om];exact hn c om
  ·by_cases e:c=n
   ·subst e
    rcases h5 g hc with h | ⟨c',h⟩
    ·exact .inl (b₃ oJ h)
    ·exact hg.in_ c' g h
   ·rw [h4 c e] at hc;exact hg.in_ c g hc
  ·rcases h7 b o ho with h | h | ⟨c',h⟩
   ·exact hp b o h
   ·exact .inr (.inl (b₃ oJ h))
   ·rcases hg.in_ c' b h with h | h
    ·exact .inr (.inl h)
    ·exact .inr (.inr h)
  ·rw [Dl.get_app]
   have hf:=hs.fresh c om
   cases δ with
   | none=>exact hf
   | new b=>show aR _ _ _ c=none;rw [aL _ _ om];exact hf
   | upd c' l=>
    show(match VM.get M c' with | some b=>aR (VM.get M) c' { b with l:=l } | none=>VM.get M) c=none
    cases hb:VM.get M c' with
    | none=>exact hf
    | some b=>
     show aR _ c' _ c=none
     rw [aL]
     ·exact hf
     ·rintro rfl;rw [hf] at hb;cases hb
   | mv c' b=>
    show aR _ _ _ c=none
    rw [aL _ _ om]
    unfold jJ
    split
    ·rfl
    ·exact hf
   | bump l=>
    show dH (VM.get M) l c=none
    have key: ∀(l:List (Nat×Nat)) (m:FM),m c=none→dH m l c=none:=by
     intro l
     induction l with
     | nil=>intro m h;exact h
     | cons x l ih=>
      obtain⟨c',k⟩:=x
      intro m h
      refine ih _ ?_
      cases hb:m c' with
      | none=>exact h
      | some b=>
       show aR _ c' _ c=none
       rw [aL]
       ·exact h
       ·rintro rfl;rw [h] at hb;cases hb
    exact key l _ hf
  ·exact⟨h6.os.trans hs.since.os,h6.tape.trans hs.since.tape,h6.output.trans hs.since.output,b₃ oJ h6.size,fun b hb gf=>(h6.block b (a₇ hb oJ) (fun⟨c,hc⟩=>by
    rcases hg.in_ c b hc with h | h
    ·omega
    ·exact gf h)).trans (hs.since.block b hb gf)⟩
 unfold eY at hK
 split at hK
 ·exact⟨E2,hK,common YC hs.defers hs.size⟩
 ·rename_i d
  split at hK
  ·rename_i hd
   have BH:d < N:=by simpa [c₀] using hd
   exact⟨_,hK,common (YC.put hs.size BH h1) hs.defers (by simp [Act.put,hs.size])⟩
  ·exact hK.elim
theorem dI.app: ∀{l s:List MV} {vs us:List Value},dI w P adr l vs→dI w P adr s us→dI w P adr (l ++ s) (vs ++ us)
 | _,_,_,_, .nil,h=>h
 | _,_,_,_, .cons h t,h2=> .cons h (t.app h2)
theorem dI.of_parts: ∀{l:List MV} {parts:List (List Value)},parts.length=l.length→(∀(j:Nat) m p,l[j]? =some m→parts[j]? =some p→dk w P adr m p)→dI w P adr l (a₉ valM l parts)
 | [],[],_,_=> .nil
 | m :: l,p :: parts,hl,hr=> .cons (.val p (hr 0 m p rfl rfl)) (dI.of_parts (by simpa using hl) fun j m p h1 h2=>hr (j + 1) m p h1 h2)
 | [],_ :: _,h,_=>by simp at h
 | _ :: _,[],h,_=>by simp at h
theorem qM: ∀{l l':List MV} {parts:List (List Value)},l'.map MV.isAgg=l.map MV.isAgg→a₉ valM l' parts=a₉ valM l parts
 | [],[],_,_=>rfl
 | a :: l,a' :: l',[],_=>rfl
 | a :: l,a' :: l',q :: parts,h=>by
  simp only [c₅,List.cons.injEq] at h
  simp only [c₈]
  rw [qM h.2]
  congr 1
  unfold valM
  rw [h.1]
 | [],_ :: _,_,h=>by simp at h
 | _ :: _,[],_,h=>by simp at h
mutual
theorem yM: ∀{m:FM} {p:MV} {K:MV×List (Nat×Nat)→Prop},(dO m p).runP K→p.isVal=true∧∃x,x.1.isVal=true∧K x
 | m, .ms c es off n,K,h=>by
  simp only [dO] at h
  split at h
  ·split at h
   ·obtain⟨_,l,_,h⟩:=h;exact⟨rfl,_,rfl,h⟩
   ·exact h.elim
  ·exact h.elim
 | m, .st l,K,h=>by simp only [dO] at h;obtain⟨_,x,h2,h⟩:=iM (bz.bind_runP.1 h);exact⟨rfl,_,rfl,h⟩
 | m, .fn f l,K,h=>by simp only [dO] at h;obtain⟨_,x,h2,h⟩:=iM (bz.bind_runP.1 h);exact⟨rfl,_,rfl,h⟩
 | m, .ifc t v,K,h=>by simp only [dO] at h;obtain⟨_,x,h2,h⟩:=yM (bz.bind_runP.1 h);exact⟨rfl,_,rfl,h⟩
 | m, .ptr c es k fo path,K,h=>by
  simp only [dO] at h
  split at h
  ·rename_i b hb
   cases he:a₂ b.es es with
   | false=>rw [he] at h;exact h.elim
   | true=>
    rw [he] at h
    obtain⟨v,_,h⟩:=h
    cases hf:v.idFree with
    | false=>rw [hf] at h;exact h.elim
    | true=>rw [hf] at h;exact⟨rfl,_,rfl,h⟩
  ·exact h.elim
 | m, .tup _,K,h=>by simp only [dO] at h;exact h.elim
 | m, .undef,K,h=>by simp only [dO] at h;exact h.elim
 | m, .mp _,K,h=>by simp only [dO] at h;exact h.elim
 | m, .mpv ..,K,h=>by simp only [dO] at h;exact h.elim
 | m, .int ..,K,h=>by simp only [dO] at h;exact⟨rfl,_,rfl,h⟩
 | m, .bool ..,K,h=>by simp only [dO] at h;exact⟨rfl,_,rfl,h⟩
 | m, .str ..,K,h=>by simp only [dO] at h;exact⟨rfl,_,rfl,h⟩
 | m, .nilp,K,h=>by simp only [dO] at h;exact⟨rfl,_,rfl,h⟩
 | m, .gp ..,K,h=>by simp only [dO] at h;exact⟨rfl,_,rfl,h⟩
 | m, .ep ..,K,h=>by simp only [dO] at h;exact⟨rfl,_,rfl,h⟩
 | m, .sl ..,K,h=>by simp only [dO] at h;exact⟨rfl,_,rfl,h⟩
 | m, .nils,K,h=>by simp only [dO] at h;exact⟨rfl,_,rfl,h⟩
 | m, .nilf,K,h=>by simp only [dO] at h;exact⟨rfl,_,rfl,h⟩
 | m, .nili,K,h=>by simp only [dO] at h;exact⟨rfl,_,rfl,h⟩
 | m, .arr ..,K,h=>by simp only [dO] at h;exact⟨rfl,_,rfl,h⟩
theorem iM: ∀{m:FM} {l:List MV} {K:List MV×List (Nat×Nat)→Prop},(gN m l).runP K→(∀p∈l,p.isVal=true)∧∃x,(∀p∈x.1,p.isVal=true)∧K x
 | m,[],K,h=>⟨fun p hp=>(nomatch hp),([],[]),fun p hp=>(nomatch hp),h⟩
 | m,q :: l,K,h=>by
  simp only [gN] at h
  obtain⟨h1,x,hx,h2⟩:=yM (bz.bind_runP.1 h)
  obtain⟨h3,y,hy,h4⟩:=iM (bz.bind_runP.1 h2)
  refine⟨fun p hp=>?_,_,fun p hp=>?_,h4⟩
  ·rcases b₄.1 hp with rfl | hp
   ·exact h1
   ·exact h3 p hp
  ·rcases b₄.1 hp with rfl | hp
   ·exact hx
   ·exact hy p hp
end
theorem sY {l:List MV} {vs:List Value} {K:List MV×List (Nat×Nat)→Prop} (h:(gN m l).runP K) (hp:dI w P adr l vs) (hI:bf w P adr m) :
  ∃l' bs,K (l',bs)∧∃P',bf w P' adr (dH m bs)∧bJ w w P P' adr adr∧(∀x o,P' x o→P x o∨∃c,adr c=some x)∧dI w P' noAdr l' vs:=by
 obtain⟨hx,_⟩:=iM h
 obtain⟨parts,h1,h2,rfl⟩:=hp.caps hx
 obtain⟨l',bs,hK,ha,_,P',h3,h4,h5,h6,h7⟩:=uV h h1 h2 (fX.refl m) hI
 refine⟨l',bs,hK,P',h3,h4,h5,?_⟩
 have:=dI.of_parts h6 h7
 rw [qM ha] at this
 exact this
structure lj (Pg:Program) (T:bD) (ents:List FuncId) (G:GS) (w0:World) (ex0:Iy):Prop where
 seat:Seat Pg T ents
 good: ∀w,db ex0.ex w0 w→G.ok w
 out: ∀g,ex0.ex g→¬ G.L g
 lt: ∀g,G.L g→g < w0.heap.size
theorem O1 (hS:lj Pg T ents G w0 ex0) {o:Oper} {E2:VE} {K:MV→VM→Prop} (h:yh Pg T ents G o E2 M n K) (hI:bf w P adr (VM.get M)) (hn: ∀c,n≤c→adr c=none) (hf: ∀c,n≤c→VM.get M c=none) (hE:hJ w P adr (VE.get E2) a) (hs:db ex0.ex w0 w)
  {next:Act→World→Prop} {Q:Exit→Act→World→Prop} (hK: ∀r δ u w',K r (δ.app n M)→bP w P adr (VM.get M) n r δ u w'→next (a.put o.dst u) w'):o.wp Pg a w next Q:=by
 have plain:(jv Pg T (VE.get E2) (VM.get M) n o).runP (fun x=>K x.1 (x.2.app n M))→o.wp Pg a w next Q:=by
  intro h
  obtain⟨r,δ,hk,hr⟩:=KJ hS.seat.tab hI (hn n (b₂ _)) (hf n (b₂ _)) hE h
  unfold Oper.wp
  rcases hr with ⟨u,w',h1,h2⟩ | ⟨w',h1,h2⟩
  ·rw [h1];exact hK r δ u w' hk h2
  ·rw [h1];exact hK r δ undef w' hk h2
 obtain⟨dst,op,ty,pos,after,guard⟩:=o
 cases op with
 | call c=>
  obtain⟨callee,args,er⟩:=c
  cases callee with
  | builtin b=>exact plain h
  | invoke r n=>exact plain h
  | value f=>
   replace h:(ud E2 M f args.toList).runP fun x=>match ents.contains x.1 with | true=> ∃res,aE Pg G x.1 x.2.1 res∧K res (VM.bump M x.2.2) | false=>False:=h
   unfold ud at h
   obtain⟨pf,h,Ia⟩:=bO hE h
   obtain⟨ps,h,pG⟩:=jN hE h
   cases pf with
   | fn f0 caps=>
    replace h:=bz.bind_runP.1 h
    generalize hu:a.eval f=uf at Ia
    cases Ia with
    | val cs RG=>
     cases RG with
     | fn parts jD zQ=>
      have fF:=pG.app (dI.of_parts jD zQ)
      obtain⟨l',bs,h,P',h1,h2,h3,h4⟩:=sY h fF hI
      replace h:(match ents.contains f0 with | true=> ∃res,aE Pg G f0 l' res∧K res (VM.bump M bs) | false=>False):=h
      split at h
      ·rename_i hc
       obtain⟨res,sK,hk⟩:=h
       have k8:(execOp a.eval ⟨dst, .call ⟨.value f,args,er⟩,ty,pos,after,guard⟩).run Pg w= .ok (.enter f0 (args.toList.map a.eval ++ a₉ valM caps parts).toArray) w:=by
        have he:=hS.seat.enters f0 (by simpa using hc) (args.toList.map a.eval ++ a₉ valM caps parts).toArray w
        rw [← he]
        have Gc:args.map a.eval=(args.toList.map a.eval).toArray:=kM _ _
        simp [execOp,resolve,hu,valM,MV.isAgg,Deferred.ofValue,invoke,Gc]
       unfold Oper.wp
       rw [k8]
       refine(sK w P' _ (hS.good w hs) h1.prot h4).mono ?_
       rintro e w' ⟨v,rfl,h5,h6⟩
       refine hK res (.bump bs) v w' hk ⟨jK w w' P',adr,?_,by exact h1.below h6,h2.trans (bJ.below h1.prot h6),fun _ _=>rfl,fun g hg=>(by rw [hn n (b₂ _)] at hg;cases hg),(db.of_below h6).weak fun _ e=>e.elim,fun b o hb=>?_⟩
       ·exact h5.keep ⟨fun _ _ h=>h,fun _ _ _=>rfl,fun _ _ h=>(nomatch h),fun _ _ _ _ h=>nomatch h⟩
       ·rcases hb with hb | hb
        ·rcases h3 b o hb with hb | hb
         ·exact .inl hb
         ·exact .inr (.inr hb)
        ·exact .inr (.inl hb.1)
      ·exact h.elim
   | _=>exact h.elim
 | _=>exact plain h
end
end
section
section
variable {Pg:Program} {T:bD} {N:Nat} {ents:List FuncId} {G:GS} {w0 w w':World} {ex0:Iy} {P0 P:cB} {adr:gG} {E:VE} {M:VM} {m:FM} {n:Nat} {a:Act} {r:MV} {u:Value} {δ:Dl}
theorem qL.know (hs:qL N w0 ex0 P0 (VE.get E) (VM.get M) n a w) {s:Nat} {t:Bool} (h:VE.get E s=some (.bool t)):a.tmps[s]? =some (.bool t):=by
 obtain⟨P,adr,_,hE,_⟩:=hs.ex;obtain⟨u,h1,h2⟩:=hE s _ h;rw [h1,h2.bool_]
theorem hJ.know (hE:hJ w P adr (VE.get E) a) {s:Nat} {v:MV} (h:VE.get E s=some v):hJ w P adr (VE.get ((s,v) :: E)) a:=by
 intro t x ht;rw [VE.get_cons] at ht;split at ht
 ·rename_i e;subst e;injection ht with ht;subst ht;exact hE s v h
 ·exact hE t x ht
mutual
theorem jh: ∀{m:FM} {p:MV} {K K':MV×List (Nat×Nat)→Prop},(dO m p).runP K→(∀x,K x→K' x)→(dO m p).runP K'
 | m, .ms c es off n,K,K',h,hk=>by
  simp only [dO] at h ⊢
  split at h
  ·split at h
   ·obtain⟨a1,l,a2,h⟩:=h;exact⟨a1,l,a2,hk _ h⟩
   ·exact h.elim
  ·exact h.elim
 | m, .st l,K,K',h,hk=>by simp only [dO] at h ⊢;exact dV (bz.bind_runP.1 h) fun _ h=>hk _ h
 | m, .fn f l,K,K',h,hk=>by simp only [dO] at h ⊢;exact dV (bz.bind_runP.1 h) fun _ h=>hk _ h
 | m, .ifc t v,K,K',h,hk=>by simp only [dO] at h ⊢;exact jh (bz.bind_runP.1 h) fun _ h=>hk _ h
 | m, .ptr c es k fo path,K,K',h,hk=>by
  simp only [dO] at h ⊢
  split at h
  ·rename_i b hb
   cases he:a₂ b.es es with
   | false=>rw [he] at h;exact h.elim
   | true=>
    rw [he] at h
    obtain⟨v,h1,h⟩:=h
    cases hf:v.idFree with
    | false=>rw [hf] at h;exact h.elim
    | true=>rw [hf] at h;exact⟨v,h1,by simp only [hf];exact hk _ h⟩
  ·exact h.elim
 | m, .tup _,K,K',h,hk=>by simp only [dO] at h;exact h.elim
 | m, .undef,K,K',h,hk=>by simp only [dO] at h;exact h.elim
 | m, .mp _,K,K',h,hk=>by simp only [dO] at h;exact h.elim
 | m, .mpv ..,K,K',h,hk=>by simp only [dO] at h;exact h.elim
 | m, .int ..,K,K',h,hk=>by simp only [dO] at h ⊢;exact hk _ h
 | m, .bool ..,K,K',h,hk=>by simp only [dO] at h ⊢;exact hk _ h
 | m, .str ..,K,K',h,hk=>by simp only [dO] at h ⊢;exact hk _ h
 | m, .nilp,K,K',h,hk=>by simp only [dO] at h ⊢;exact hk _ h
 | m, .gp ..,K,K',h,hk=>by simp only [dO] at h ⊢;exact hk _ h
 | m, .ep ..,K,K',h,hk=>by simp only [dO] at h ⊢;exact hk _ h
 | m, .sl ..,K,K',h,hk=>by simp only [dO] at h ⊢;exact hk _ h
 | m, .nils,K,K',h,hk=>by simp only [dO] at h ⊢;exact hk _ h
 | m, .nilf,K,K',h,hk=>by simp only [dO] at h ⊢;exact hk _ h
 | m, .nili,K,K',h,hk=>by simp only [dO] at h ⊢;exact hk _ h
 | m, .arr ..,K,K',h,hk=>by simp only [dO] at h ⊢;exact hk _ h
theorem dV: ∀{m:FM} {l:List MV} {K K':List MV×List (Nat×Nat)→Prop},(gN m l).runP K→(∀x,K x→K' x)→(gN m l).runP K'
 | m,[],K,K',h,hk=>hk _ h
 | m,q :: l,K,K',h,hk=>by
  simp only [gN] at h ⊢
  exact jh (bz.bind_runP.1 h) fun x hx=>dV (bz.bind_runP.1 hx) fun y hy=>hk _ hy
end
end
end
section
def mxB:List (Nat×Nat)→Nat→Nat
 | [],_=>0
 | (k,n) :: l,c=>if k=c then b₀ n (mxB l c) else mxB l c
theorem bumpF_get: ∀{l:List (Nat×Nat)} {m:FM} {c:Nat},dH m l c=(m c).map fun b=>{ b with pe:=b₀ b.pe (mxB l c) }
 | [],m,c=>by
  show m c=_
  cases m c with
  | none=>rfl
  | some b=>simp [mxB]
 | (k,n) :: l,m,c=>by
  show dH (match m k with | some b=>aR m k { b with pe:=b₀ b.pe n } | none=>m) l c=_
  rw [bumpF_get]
  by_cases hk:k=c
  ·subst hk
   cases hb:m k with
   | none=>simp [hb]
   | some b=>simp [aR,mxB,Nat.max_assoc]
  ·have aC:c≠k:=fun h=>hk h.symm
   cases hb:m k with
   | none=>simp [mxB,hk]
   | some b=>simp [aR,mxB,hk,aC]
abbrev Fz:=Nat→Option (MB×Nat)
def lU (M:VM):List (Nat×Nat)→Fz
 | [],_=>none
 | (x,k) :: l,c=>bif a₂ x c then(match VM.get M c with | some b=>some (b,k) | none=>none) else lU M l c
def VT (fz:Fz) (v:MV) (n:Nat) (l:List MV):Prop:=match v with
 | .ms c es off n'=>match fz c with
  | some (b,k)=>b.row=true∧b.es=es∧n'=n∧off + n≤k∧cutL b.l off (off + n)=l
  | none=>False
 | .nils=>n=0∧l= []
 | _=>False
def VU (fz:Fz) (v:MV) (x:MV) (fo:Nat) (path:List Nat):Prop:=match v with
 | .ptr c es k fo' SE=>match fz c with
  | some (b,kk)=>b.es=es∧k < kk∧fo'=fo∧SE=path∧cE b.l k=some x∧x.idFree=true
  | none=>False
 | _=>False
def eZ (σ:Nat→Option Nat) (fz:Fz):MV→MV→Prop
 | .ms c es off n,v=>(v= .nils∧off=0∧n=0)∨∃c0,σ c=some c0∧v= .ms c0 es off n
 | .ptr c es k fo path,v=> ∃c0,σ c=some c0∧v= .ptr c0 es k fo path
 | .st l,v=>(MV.st l=v∧MV.idFrees l=true)∨∃l0,v= .st l0∧relVs σ fz l l0
 | .fn f l,v=>(MV.fn f l=v∧MV.idFrees l=true)∨∃l0,v= .fn f l0∧relVs σ fz l l0
 | .ifc t x,v=>(MV.ifc t x=v∧x.idFree=true)∨∃y,v= .ifc t y∧eZ σ fz x y
 | .sl n l,v=>MV.sl n l=v∨VT fz v n l
 | .ep x fo path,v=>MV.ep x fo path=v∨VU fz v x fo path
 | .mp c,v=> ∃c0,σ c=some c0∧v= .mp c0
 | m,v=>m=v∧m.idFree=true
where relVs (σ:Nat→Option Nat) (fz:Fz):List MV→List MV→Prop
 | [],[] =>True
 | m :: l,v :: r=>eZ σ fz m v∧relVs σ fz l r
 | _,_=>False
def oP:List (Nat×Nat)→Nat→Option Nat
 | [],_=>none
 | (a,b) :: l,c=>bif a₂ a c then some b else oP l c
def dw (n0:Nat) (σ:List (Nat×Nat)) (c:Nat):Option Nat:=bif b₁ c n0 then some c else oP σ c
def mE (σ:Nat→Option Nat) (fz:Fz):VE→VE→Prop
 | [],_=>True
 | (t,v) :: E',E=>(∃u,VE.get E t=some u∧eZ σ fz v u)∧mE σ fz E' E
def ZA (b' b:MB):Prop:=b'.row=b.row∨(b.row=true∧b'.row=false∧b'.l=b.l∧b.l≠ [])∨(b.row=false∧b'.row=true∧MV.idFrees b'.l=true)
def GK:List MV→Bool
 | [.mpv _ _] =>true
 | _=>false
theorem Iz {l:List MV} (h:GK l=true): ∃ks vs,l= [.mpv ks vs] :=by
 unfold GK at h;split at h
 ·exact⟨_,_,rfl⟩
 ·cases h
def mB (σ:Nat→Option Nat) (fz:Fz) (M:VM) (c:Nat) (b':MB):Prop:=
 (b'.row=true∧b'.l= [] ∧b'.pe=0∧σ c=none)∨∃c0 b,σ c=some c0∧VM.get M c0=some b∧b'.ty=b.ty∧b'.es=b.es∧ZA b' b∧(b'.pe=b.pe∨(b.pe≤b'.pe∧b'.pe≤b'.l.length))∧(b'.l=b.l∧(b.row || GK b.l)=true∨eZ.relVs σ fz b'.l b.l)
def mM (σ:Nat→Option Nat) (fz:Fz):VM→VM→Prop
 | [],_=>True
 | (c,b') :: M',M=>mB σ fz M c b'∧mM σ fz M' M
def IA:List (Nat×Nat)→Bool
 | [] =>true
 | (_,b) :: l=>l.all (fun x=> !a₂ x.2 b) && IA l
def uH (n0 n':Nat) (σ:List (Nat×Nat)):Bool:=c₄ n0 n' && IA σ && σ.all (fun x=>b₁ x.1 n' && c₄ n0 x.1 && c₄ n0 x.2)
def EP (M:VM):List (Nat×Nat)→Prop
 | [] =>True
 | (c,k) :: l=>(match VM.get M c with | some b=>k≤b.l.length | none=>False)∧EP M l
def iy (n0:Nat) (E':VE) (M':VM) (n':Nat) (E:VE) (M:VM):Prop:=
 ∃(σ bs:List (Nat×Nat)),uH n0 n' σ=true∧EP M bs∧M'.all (fun x=>b₁ x.1 n')=true∧mE (dw n0 σ) (lU M bs) E' E∧mM (dw n0 σ) (lU M bs) M' (VM.bump M bs)
def fg (n0:Nat) (l':List MV) (M':VM) (n':Nat) (l:List MV) (M:VM) (σ bs:List (Nat×Nat)):Prop:=
 uH n0 n' σ=true∧EP M bs∧M'.all (fun x=>b₁ x.1 n')=true∧eZ.relVs (dw n0 σ) (lU M bs) l' l∧mM (dw n0 σ) (lU M bs) M' (VM.bump M bs)
theorem vO {σ:Nat→Option Nat} {fz:Fz}: ∀{p v:MV},eZ σ fz p v→p.isAgg=v.isAgg
 | .ms c es off n,v,h=>by rcases h with ⟨rfl,_⟩ | ⟨_,_,rfl⟩ <;> rfl
 | .ptr ..,v,h=>by obtain⟨_,_,rfl⟩:=h;rfl
 | .st ..,v,h=>by rcases h with ⟨rfl,_⟩ | ⟨_,rfl,_⟩ <;> rfl
 | .fn ..,v,h=>by rcases h with ⟨rfl,_⟩ | ⟨_,rfl,_⟩ <;> rfl
 | .ifc ..,v,h=>by rcases h with ⟨rfl,_⟩ | ⟨_,rfl,_⟩ <;> rfl
 | .sl n l,v,h=>by
  rcases h with rfl | h
  ·rfl
  ·unfold VT at h;split at h <;> first | rfl | exact h.elim
 | .ep x fo path,v,h=>by
  rcases h with rfl | h
  ·rfl
  ·unfold VU at h;split at h <;> first | rfl | exact h.elim
 | .int ..,v,h=>by obtain⟨rfl,_⟩:=h;rfl
 | .bool ..,v,h=>by obtain⟨rfl,_⟩:=h;rfl
 | .str ..,v,h=>by obtain⟨rfl,_⟩:=h;rfl
 | .nilp,v,h=>by obtain⟨rfl,_⟩:=h;rfl
 | .gp ..,v,h=>by obtain⟨rfl,_⟩:=h;rfl
 | .nils,v,h=>by obtain⟨rfl,_⟩:=h;rfl
 | .nilf,v,h=>by obtain⟨rfl,_⟩:=h;rfl
 | .nili,v,h=>by obtain⟨rfl,_⟩:=h;rfl
 | .arr ..,v,h=>by obtain⟨rfl,_⟩:=h;rfl
 | .tup ..,v,h=>by obtain⟨rfl,_⟩:=h;rfl
 | .undef,v,h=>by obtain⟨rfl,_⟩:=h;rfl
 | .mp ..,v,h=>by obtain⟨_,_,rfl⟩:=h;rfl
 | .mpv ..,v,h=>by obtain⟨rfl,_⟩:=h;rfl
section
variable {N:Nat} {w0 w w':World} {ex0:Iy} {P0 P:cB} {adr:gG} {E:VE} {M:VM} {m m0:FM} {n:Nat} {a:Act} {u:Value} {fz:Fz}
def Ak (w:World) (P:cB) (adr:gG) (fz:Fz):Prop:= ∀c b k,fz c=some (b,k)→∀g,adr c=some g→(b.row=true∨∀ks vs,b.l≠ [.mpv ks vs])→
 ∃(cur:Array Value) (parts:List (List Value)),w.heap[g]? =some (.cells cur b.ty (0,0))∧parts.length=b.l.length∧(∀p∈parts,p.length=b.es)∧
  (∀(j:Nat) x p,b.l[j]? =some x→parts[j]? =some p→dk w P (if b.row then noAdr else adr) x p)∧parts.flatten <+:cur.toList∧(∀o,o < k * b.es→P g o)∧k≤b.l.length
theorem GL: ∀(bs:List (Nat×Nat)) {m:FM} {P:cB},fX m0 m→bf w P adr m→(∀c k,(c,k)∈bs→∃b,m0 c=some b∧k≤b.l.length)→
  ∃P',bf w P' adr (dH m bs)∧bJ w w P P' adr adr∧(∀x o,P' x o→P x o∨∃c,adr c=some x)∧fX m0 (dH m bs)∧∀c k,(c,k)∈bs→∀b,m0 c=some b→∀g,adr c=some g→∀o,o < k * b.es→P' g o
 | [],m,P,hs,hI,_=>⟨P,hI,bJ.refl _ _ _,fun _ _ h=> .inl h,hs,fun _ _ h=>nomatch h⟩
 | (c,k) :: bs,m,P,hs,hI,hb=>by
  obtain⟨b,h1,h2⟩:=hb c k sm
  obtain⟨b',h3,e1,e2,e3,e4⟩:=hs c b h1
  obtain⟨P1,a1,a2,a3,a4⟩:=hI.bump1 h3 (n:=k) (by rw [e1];exact h2)
  have e5:dH m ((c,k) :: bs)=dH (aR m c { b' with pe:=b₀ b'.pe k }) bs:=by
   show dH (match m c with | some b=>aR m c { b with pe:=b₀ b.pe k } | none=>m) bs=_
   rw [h3]
  have tX:fX m0 (aR m c { b' with pe:=b₀ b'.pe k }):=by
   have:=hs.bump c k
   rw [h3] at this
   exact this
  obtain⟨P2,b1,b2,b3,b4,b5⟩:=GL bs tX a1 fun c k h=>hb c k (by simp [h])
  refine⟨P2,?_,a2.trans b2,fun x o hp=>?_,?_,fun c' k' hm b2' iY g hg o ho=>?_⟩
  ·rw [e5];exact b1
  ·rcases b3 x o hp with h | h
   ·exact a3 x o h
   ·exact .inr h
  ·rw [e5];exact b4
  ·rcases b₄.1 hm with h | h
   ·injection h with x1 x2
    subst x1;subst x2
    rw [h1] at iY
    injection iY with iY
    subst iY
    exact b2.prot _ _ (a4 g hg o (by rw [e3];exact ho))
   ·exact b5 c' k' h b2' iY g hg o ho
theorem Al: ∀{bs:List (Nat×Nat)},EP M bs→∀c k,(c,k)∈bs→∃b,VM.get M c=some b∧k≤b.l.length
 | (x,y) :: bs,h,c,k,hm=>by
  rcases b₄.1 hm with e | hm
  ·injection e with e1 e2
   subst e1;subst e2
   have h1:=h.1
   cases hb:VM.get M c with
   | none=>rw [hb] at h1;exact h1.elim
   | some b=>rw [hb] at h1;exact⟨b,rfl,h1⟩
  ·exact Al h.2 c k hm
theorem GM: ∀{bs:List (Nat×Nat)} {c:Nat} {b:MB} {k:Nat},lU M bs c=some (b,k)→(c,k)∈bs∧VM.get M c=some b
 | (x,y) :: bs,c,b,k,h=>by
  have h':(bif a₂ x c then(match VM.get M c with | some b=>some (b,y) | none=>none) else lU M bs c)=some (b,k):=h
  by_cases e:x=c
  ·subst e
   simp only [Nat.beq_refl,cond_true] at h'
   cases hb:VM.get M x with
   | none=>rw [hb] at h';cases h'
   | some b'=>rw [hb] at h';injection h' with h';injection h' with h1 h2;subst h1;subst h2;exact⟨sm,rfl⟩
  ·simp only [ir e,cond_false] at h'
   obtain⟨h1,h2⟩:=GM h'
   exact⟨by simp [h1],h2⟩
theorem bf.frozen (hI:bf w P adr (VM.get M)) {bs:List (Nat×Nat)} (h:EP M bs) :
  ∃P',bf w P' adr (VM.get (VM.bump M bs))∧bJ w w P P' adr adr∧(∀x o,P' x o→P x o∨∃c,adr c=some x)∧Ak w P' adr (lU M bs):=by
 obtain⟨P',h1,h2,h3,h4,h5⟩:=GL bs (fX.refl _) hI (Al h)
 refine⟨P',by rw [VM.get_bump];exact h1,h2,h3,fun c b k hc g hg hn=>?_⟩
 obtain⟨q1,q2⟩:=GM hc
 obtain⟨b0,q3,q4⟩:=Al h c k q1
 rw [q2] at q3
 injection q3 with q3
 subst q3
 obtain⟨b',r1,r2,r3,r4,r5⟩:=h4 c b q2
 rcases h1.blk c b' r1 with s | ⟨g',s1,s2⟩
 ·rw [hg] at s;cases s.2.2.1
 ·rw [hg] at s1
  injection s1 with s1
  subst s1
  obtain⟨cur,parts,c1,c2,c3,c4,c5⟩:=hn.elim (fun hn=>s2.ofR (by rw [r3];exact hn)) (fun hn=>s2.ofL (by rw [r2];exact hn))
  exact⟨cur,parts,by rw [← r5];exact c1,by rw [← r2];exact c2,by rw [← r4];exact c3,by rw [← r2,← r3];exact c4,c5,h5 c k q1 b q2 g hg,q4⟩
def gw (σ:Nat→Option Nat) (adr:gG):gG:=fun c=>(σ c).bind adr
theorem O2 (hf:Ak w P adr fz) {v:MV} {k:Nat} {l:List MV} {cs:List Value} (h:VT fz v k l) (hr:dk w P adr v cs) {a2:gG}:dk w P a2 (.sl k l) cs:=by
 have nil:dk w P a2 (.sl 0 []) [.slice none 0 0] := .sl none 0 0 [] rfl rfl (fun p hp=>nomatch hp) (fun _=>⟨rfl,rfl⟩) (b₂ _) (fun h=>absurd rfl h) (fun j m p h=>by simp at h);unfold VT at h;cases hr with
 | nils=>obtain ⟨rfl,rfl⟩:=h;exact nil
 | ms0=>
  rename_i c es;simp only at h;split at h
  ·obtain⟨_,_,rfl,_,rfl⟩:=h;simpa [cutL] using nil
  ·exact h.elim
 | ms g o cap hg ho iq sE gM=>
  rename_i c es off n;simp only at h;split at h
  ·rename_i b kk hb;obtain⟨dP,ej,rfl,hk,rfl⟩:=h;obtain⟨cur,parts,c1,c2,c3,c4,c5,c6,c7⟩:=hf c b kk hb g hg (.inl dP);rw [dP] at c4;have qw:(cutL b.l off (off + n)).length=n:=by unfold cutL;rw [a₅,a₆];omega
   have pH: ∀p∈parts,p.length=es:=fun p hp=>by rw [c3 p hp,ej]
   have fF: ∀p∈(parts.drop off).take n,p.length=es:=fun p hp=>pH p (b₇ (b₈ hp))
   have oE:((parts.drop off).take n).length=n:=by rw [a₅,a₆];omega
   refine .sl (some ⟨g,o,none⟩) cap es ((parts.drop off).take n) qw oE fF (fun h=>nomatch h) iq (fun uD=>⟨g,o,rfl,fun j u hj=>?_⟩) fun j x p hx hp=>?_
   ·have ho:=ho (.inl uD);subst ho;have xX:=(a₃.1 hj).1;rw [aU fF,oE] at xX;refine⟨?_,c6 _ ?_⟩
    ·rw [cell_of_row w g _ cur b.ty (0,0) c1];have:=eH c5 (eu pH off n hj om);simpa using this
    ·rw [ej];have:=a₄ es hk;rw [c₃] at this;omega
   ·obtain⟨hx,hj⟩:=ka hx;rw [c₁] at hp;split at hp
    ·rw [c₂] at hp;exact c4 _ x p hx hp
    ·cases hp
  ·exact h.elim
 | _=>exact h.elim
theorem O3 (hf:Ak w P adr fz) {v x:MV} {fo:Nat} {path:List Nat} {cs:List Value} (h:VU fz v x fo path) (hr:dk w P adr v cs) {a2:gG}:dk w P a2 (.ep x fo path) cs:=by
 unfold VU at h;cases hr with
 | ptr g hg=>
  rename_i c es k fo' SE;simp only at h;split at h
  ·rename_i b kk hb;obtain⟨ej,hk,rfl,rfl,hx,SM⟩:=h;obtain⟨cur,parts,c1,c2,c3,c4,c5,c6,c7⟩:=hf c b kk hb g hg (.inr fun ks vs e=>by
    rw [e] at hx;cases k with
    | zero=>injection hx with hx;subst hx;cases SM
    | succ k=>simp [cE] at hx)
   have pH: ∀p∈parts,p.length=es:=fun p hp=>by rw [c3 p hp,ej]
   have pV:k < parts.length:=om;have El:parts[k]? =some parts[k] :=by simp [pV]
   have dA:=c4 k x parts[k] ((bZ b.l k).symm.trans hx) El;refine .ep g (k * es) parts[k] (fun j u hj=>?_) (dA.free SM);have xX:=(a₃.1 hj).1;rw [pH _ (d₀ pV)] at xX;refine⟨?_,c6 _ ?_⟩
   ·rw [cell_of_row w g _ cur b.ty (0,0) c1];have:=eH c5 (eu pH k 1 (x:=u) (by
     have:(parts.drop k).take 1= [parts[k]] :=by rw [c₆ pV];rfl
     rw [this];simpa using hj) om)
    simpa using this
   ·rw [ej];have:=a₄ es (show k + 1≤kk by omega);rw [c₃] at this;omega
  ·exact h.elim
 | _=>exact h.elim
mutual
theorem vP {σ:Nat→Option Nat} (hf:Ak w P adr fz): ∀{p v:MV} {cs:List Value},eZ σ fz p v→dk w P adr v cs→dk w P (gw σ adr) p cs
 | .ms c es off n,v,cs,h,hr=>by
  rcases h with ⟨rfl,rfl,rfl⟩ | ⟨c0,h1,rfl⟩
  ·cases hr;exact .ms0
  ·cases hr with
   | ms0=>exact .ms0
   | ms g o cap a1 a2 a3 a4 a5=>exact .ms g o cap (by simp [gw,h1,a1]) a2 a3 a4 a5
 | .ptr c es k fo path,v,cs,h,hr=>by
  obtain⟨c0,h1,rfl⟩:=h
  cases hr with
  | ptr g a1=>exact .ptr g (by simp [gw,h1,a1])
 | .st l,v,cs,h,hr=>by
  rcases h with ⟨rfl,h2⟩ | ⟨l0,rfl,h2⟩
  ·exact(hr.free h2).ofNone
  ·cases hr with
   | st parts hp hr=>
    obtain⟨h3,h4,_⟩:=jW hf h2 hp hr
    exact .st parts h3 h4
 | .fn f l,v,cs,h,hr=>by
  rcases h with ⟨rfl,h2⟩ | ⟨l0,rfl,h2⟩
  ·exact(hr.free h2).ofNone
  ·cases hr with
   | fn parts hp hr=>
    obtain⟨h3,h4,h5⟩:=jW hf h2 hp hr
    rw [← qM h5]
    exact .fn parts h3 h4
 | .ifc t x,v,cs,h,hr=>by
  rcases h with ⟨rfl,h2⟩ | ⟨y,rfl,h2⟩
  ·exact(hr.free h2).ofNone
  ·cases hr with
   | ifc cs hr=>
    have h3:=vP hf h2 hr
    have e:valM y cs=valM x cs:=by unfold valM;rw [vO h2]
    rw [e]
    exact .ifc cs h3
 | .sl n l,v,cs,h,hr=>by
  rcases h with rfl | h
  ·exact(hr.free rfl).ofNone
  ·exact O2 hf h hr
 | .ep x fo path,v,cs,h,hr=>by
  rcases h with rfl | h
  ·exact(hr.free rfl).ofNone
  ·exact O3 hf h hr
 | .int ..,v,cs,h,hr=>by obtain⟨rfl,h2⟩:=h;exact(hr.free h2).ofNone
 | .bool ..,v,cs,h,hr=>by obtain⟨rfl,h2⟩:=h;exact(hr.free h2).ofNone
 | .str ..,v,cs,h,hr=>by obtain⟨rfl,h2⟩:=h;exact(hr.free h2).ofNone
 | .nilp,v,cs,h,hr=>by obtain⟨rfl,h2⟩:=h;exact(hr.free h2).ofNone
 | .gp ..,v,cs,h,hr=>by obtain⟨rfl,h2⟩:=h;exact(hr.free h2).ofNone
 | .nils,v,cs,h,hr=>by obtain⟨rfl,h2⟩:=h;exact(hr.free h2).ofNone
 | .nilf,v,cs,h,hr=>by obtain⟨rfl,h2⟩:=h;exact(hr.free h2).ofNone
 | .nili,v,cs,h,hr=>by obtain⟨rfl,h2⟩:=h;exact(hr.free h2).ofNone
 | .arr ..,v,cs,h,hr=>by obtain⟨rfl,h2⟩:=h;exact(hr.free h2).ofNone
 | .tup ..,v,cs,h,hr=>by obtain⟨rfl,h2⟩:=h;exact(hr.free h2).ofNone
 | .undef,v,cs,h,hr=>by obtain⟨rfl,h2⟩:=h;exact(hr.free h2).ofNone
 | .mpv ..,v,cs,h,hr=>by obtain⟨rfl,h2⟩:=h;exact(hr.free h2).ofNone
 | .mp c,v,cs,h,hr=>by
  obtain⟨c0,h1,rfl⟩:=h
  cases hr with
  | mp g a1=>exact .mp g (by simp [gw,h1,a1])
theorem jW {σ:Nat→Option Nat} (hf:Ak w P adr fz): ∀{l l0:List MV} {parts:List (List Value)},eZ.relVs σ fz l l0→parts.length=l0.length→(∀(j:Nat) m p,l0[j]? =some m→parts[j]? =some p→dk w P adr m p)→
  parts.length=l.length∧(∀(j:Nat) m p,l[j]? =some m→parts[j]? =some p→dk w P (gw σ adr) m p)∧l.map MV.isAgg=l0.map MV.isAgg
 | [],[],parts,_,hp,_=>⟨hp,fun j m p h=>by simp at h,rfl⟩
 | m :: l,v :: l0,[],h,hp,_=>by simp at hp
 | m :: l,v :: l0,q :: parts,h,hp,hr=>by
  obtain⟨h1,h2⟩:=h
  obtain⟨h3,h4,h5⟩:=jW hf h2 (parts:=parts) (by simpa using hp) fun j m p a b=>hr (j + 1) m p a b
  refine⟨by simp [h3],fun j x p hx hq=>?_,by simp [h5,vO h1]⟩
  cases j with
  | zero=>simp at hx hq;subst hx;subst hq;exact vP hf h1 (hr 0 v q rfl rfl)
  | succ j=>exact h4 j x p (by simpa using hx) (by simpa using hq)
 | [],_ :: _,_,h,_,_=>h.elim
 | _ :: _,[],_,h,_,_=>h.elim
end
theorem qN {σ:Nat→Option Nat} {p v:MV} (h:eZ σ fz p v):v.isVal=true∧p.isVal=true:=by
 cases p with
 | ms=>rcases h with ⟨rfl,_⟩ | ⟨_,_,rfl⟩ <;> exact⟨rfl,rfl⟩
 | ptr=>obtain ⟨_,_,rfl⟩:=h;exact⟨rfl,rfl⟩
 | mp=>obtain ⟨_,_,rfl⟩:=h;exact⟨rfl,rfl⟩
 | st=>rcases h with ⟨rfl,_⟩ | ⟨_,rfl,_⟩ <;> exact⟨rfl,rfl⟩
 | fn=>rcases h with ⟨rfl,_⟩ | ⟨_,rfl,_⟩ <;> exact⟨rfl,rfl⟩
 | ifc=>rcases h with ⟨rfl,_⟩ | ⟨_,rfl,_⟩ <;> exact⟨rfl,rfl⟩
 | sl=>
  rcases h with rfl | h
  ·exact⟨rfl,rfl⟩
  ·unfold VT at h;split at h <;> first | exact⟨rfl,rfl⟩ | exact h.elim
 | ep=>
  rcases h with rfl | h
  ·exact⟨rfl,rfl⟩
  ·unfold VU at h;split at h <;> first | exact⟨rfl,rfl⟩ | exact h.elim
 | _=>first | (obtain⟨rfl,h2⟩:=h;exact⟨rfl,rfl⟩) | (obtain⟨_,h2⟩:=h;cases h2)
theorem sZ {σ:Nat→Option Nat} (hf:Ak w P adr fz) {p v:MV} {u:Value} (h:eZ σ fz p v) (hr:aM w P adr v u):aM w P (gw σ adr) p u:=by
 cases hr with
 | val cs hr=>
  have e:valM v cs=valM p cs:=by unfold valM;rw [vO h]
  rw [e];exact .val cs (vP hf h hr)
 | undef=>cases (qN h).1
 | tup vs hl hr=>cases (qN h).1
theorem ji {σ:Nat→Option Nat} (hf:Ak w P adr fz): ∀{l l0:List MV} {vs:List Value},eZ.relVs σ fz l l0→dI w P adr l0 vs→dI w P (gw σ adr) l vs∧∀p∈l,p.isVal=true
 | [],[],_,_, .nil=>⟨.nil,fun _ h=>nomatch h⟩
 | m :: l,v :: l0,_,h, .cons h1 h2=>by
  obtain⟨h3,h4⟩:=ji hf h.2 h2
  refine⟨.cons (sZ hf h.1 h1) h3,fun p hp=>?_⟩
  rcases b₄.1 hp with rfl | hp
  ·exact(qN h.1).2
  ·exact h4 p hp
theorem gx: ∀{σ:List (Nat×Nat)} {c c0:Nat},oP σ c=some c0→(c,c0)∈σ
 | (x,y) :: σ,c,c0,h=>by
  have h':(bif a₂ x c then some y else oP σ c)=some c0:=h
  by_cases e:x=c
  ·subst e;simp at h';subst h';exact a₈
  ·simp only [ir e,cond_false] at h'
   exact c₉ _ (gx h')
theorem uW: ∀{σ:List (Nat×Nat)},IA σ=true→∀{c d c0:Nat},oP σ c=some c0→oP σ d=some c0→c=d
 | [],_,c,d,c0,h,_=>by cases h
 | (x,y) :: σ,hi,c,d,c0,h1,h2=>by
  have hi:(σ.all (fun z=> !a₂ z.2 y) && IA σ)=true:=hi
  rw [a₀,b₉] at hi
  have H7:(bif a₂ x c then some y else oP σ c)=some c0:=h1
  have VP:(bif a₂ x d then some y else oP σ d)=some c0:=h2
  have no: ∀{e:Nat},oP σ e=some y→False:=by
   intro e he
   have:=hi.1 _ (gx he)
   simp at this
  by_cases e1:x=c
  ·subst e1
   simp at H7
   subst H7
   by_cases e2:x=d
   ·exact e2
   ·simp only [ir e2,cond_false] at VP
    exact(no VP).elim
  ·simp only [ir e1,cond_false] at H7
   by_cases e2:x=d
   ·subst e2
    simp at VP
    subst VP
    exact(no H7).elim
   ·simp only [ir e2,cond_false] at VP
    exact uW hi.2 H7 VP
structure KO (n0 n':Nat) (σ:List (Nat×Nat)):Prop where
 le:n0≤n'
 lt: ∀{c d},dw n0 σ c=some d→c < n'
 inj: ∀{c d e},dw n0 σ c=some e→dw n0 σ d=some e→c=d
 same: ∀{c},c < n0→dw n0 σ c=some c
theorem ll {n0 n':Nat} {σ:List (Nat×Nat)} (h:uH n0 n' σ=true):KO n0 n' σ:=by
 unfold uH at h;simp only [a₀,b₉,Nat.ble_eq,c₀] at h;obtain⟨⟨h1,h2⟩,h3⟩:=h;have lo: ∀{c d},dw n0 σ c=some d→(c < n0∧d=c)∨(n0≤c∧n0≤d∧c < n'∧oP σ c=some d):=by
  intro c d h;unfold dw at h;by_cases hc:c < n0
  ·rw [show b₁ c n0=true by simpa [c₀] using hc] at h;injection h with h
   exact .inl ⟨hc,h.symm⟩
  ·have hb:b₁ c n0=false:=by
    cases hb:b₁ c n0 with
    | false=>rfl
    | true=>exact absurd (by simpa [c₀] using hb) hc
   rw [hb] at h;obtain⟨⟨q1,q2⟩,q3⟩:=h3 _ (gx h);exact .inr ⟨q2,q3,q1,h⟩
 refine⟨h1,fun h=>?_,fun {c d e} ha hb=>?_,fun {c} hc=>by unfold dw;rw [show b₁ c n0=true by simpa [c₀] using hc];rfl⟩
 ·rcases lo h with ⟨q1,_⟩ | ⟨_,_,q,_⟩ <;> omega
 ·rcases lo ha with ⟨q1,q2⟩ | ⟨q1,q2,q3,q4⟩ <;> rcases lo hb with ⟨r1,r2⟩ | ⟨r1,r2,r3,r4⟩
  ·omega
  ·omega
  ·omega
  ·exact uW h2 q4 r4
theorem ER {σ:Nat→Option Nat}: ∀{E' E:VE},mE σ fz E' E→∀{t:Nat} {v:MV},VE.get E' t=some v→∃u,VE.get E t=some u∧eZ σ fz v u
 | (s,x) :: E',E,h,t,v,hv=>by
  rw [VE.get_cons] at hv
  split at hv
  ·rename_i e;subst e;injection hv with hv;subst hv;exact h.1
  ·exact ER h.2 hv
theorem Am {σ:Nat→Option Nat}: ∀{M' M:VM},mM σ fz M' M→∀{c:Nat} {b':MB},VM.get M' c=some b'→mB σ fz M c b'
 | (s,x) :: M',M,h,c,b',hv=>by
  rw [VM.get_cons] at hv
  split at hv
  ·rename_i e;subst e;injection hv with hv;subst hv;exact h.1
  ·exact Am h.2 hv
theorem VM.get_mem: ∀{M:VM} {c:Nat} {b:MB},VM.get M c=some b→(c,b)∈M
 | (s,x) :: M,c,b,h=>by
  rw [VM.get_cons] at h
  split at h
  ·rename_i e;subst e;injection h with h;subst h;exact a₈
  ·exact c₉ _ (VM.get_mem h)
theorem ue: ∀{l:List MV} {j:Nat} {x:MV},MV.idFrees l=true→l[j]? =some x→x.idFree=true
 | a :: l,0,x,h,hx=>by
  unfold MV.idFrees at h
  rw [a₀] at h
  injection hx with hx
  rw [← hx]
  exact h.1
 | a :: l,j + 1,x,h,hx=>by
  unfold MV.idFrees at h
  rw [a₀] at h
  exact ue h.2 (by simpa using hx)
theorem bf.matched {n0 n':Nat} {σ:List (Nat×Nat)} {M':VM} (hσ:KO n0 n' σ) (hf:Ak w P adr fz) (hI:bf w P adr (VM.get M)) (h5:mM (dw n0 σ) fz M' M):bf w P (gw (dw n0 σ) adr) (VM.get M'):=by
 refine⟨fun c b' hc=>?_,fun c d b b' g hc hd hg BA=>?_,hI.prot⟩
 ·rcases Am h5 hc with ⟨a1,a2,a3,a4⟩ | ⟨c0,b,a1,a2,a3,a4,a5,a6,a7⟩
  ·exact .inl ⟨a1,a2,by simp [gw,a4],a3⟩
  ·rcases hI.blk c0 b a2 with b1 | ⟨g,b1,b2⟩
   ·have Ye:b'.l= [] :=by
     rcases a7 with ⟨a7,a8⟩ | a7
     ·rw [a7,b1.2.1]
     ·rw [b1.2.1] at a7;cases hl:b'.l with
      | nil=>rfl
      | cons x l=>rw [hl] at a7;exact a7.elim
    have dP:b'.row=true:=by
     rcases a5 with a5 | ⟨_,_,_,a5⟩ | ⟨a5,_⟩
     ·rw [a5,b1.1]
     ·exact absurd b1.2.1 a5
     ·rw [b1.1] at a5;cases a5
    refine .inl ⟨dP,Ye,by simp [gw,a1,b1.2.2.1],?_⟩;rcases a6 with a6 | ⟨_,a6⟩
    ·rw [a6,b1.2.2.2]
    ·rw [Ye] at a6;exact Nat.le_zero.1 a6
   ·refine .inr ⟨g,by simp [gw,a1,b1],?_⟩;rcases b2.has' with ⟨cur,parts,c1,c2,c3,c4,c5⟩ | ⟨m1,m2,ks,vs,o,m3,m4,m5⟩;rotate_left
    ·have Bq:b'.l=b.l:=by
      rcases a7 with ⟨a7,_⟩ | a7
      ·exact a7
      ·rw [m3] at a7;cases hl:b'.l with
       | nil=>rw [hl] at a7;exact a7.elim
       | cons x l=>
        rw [hl] at a7;have hx:=(qN (a7:eZ _ _ _ _∧_).1).1;cases hx
     have dP:b'.row=false:=by
      rcases a5 with a5 | ⟨e1,_,_⟩ | ⟨_,_,e3⟩
      ·rw [a5,m1]
      ·rw [m1] at e1;cases e1
      ·rw [Bq,m3] at e3;cases e3
     have hpe:b.pe≤b'.pe∧b'.pe≤b'.l.length:=by
      have:=b2.le;rcases a6 with a6 | a6
      ·rw [a6,Bq];exact⟨b₂ _,this⟩
      ·exact a6
     exact⟨.inr ⟨dP,by rw [a4];exact m2,ks,vs,o,by rw [Bq];exact m3,m4,m5⟩,fun o ho=>a₇ (b2.pe o ho) (by rw [a4];exact a₄ _ hpe.1),hpe.2⟩
    have oH:GK b.l=true→b.row=true:=fun h=>by
     obtain⟨ks,vs,e⟩:=Iz h;rw [e] at c2 c4
     match parts,c2 with
     | [p],_=>have:=c4 0 _ p rfl rfl;cases this
    have hl:parts.length=b'.l.length∧∀(j:Nat) x p,b'.l[j]? =some x→parts[j]? =some p→dk w P (if b'.row then noAdr else gw (dw n0 σ) adr) x p:=by
     rcases a5 with a5 | ⟨e1,e2,e3,_⟩ | ⟨e1,e2,e3⟩;rotate_left
     ·rw [e1] at c4;rw [e3,e2];exact⟨c2,fun j x p hx hp=>(c4 j x p hx hp).ofNone⟩
     ·rcases a7 with ⟨_,a8⟩ | a7
      ·rw [e1] at a8;rw [oH (by simpa using a8)] at e1;cases e1
      rw [e1] at c4;obtain⟨d1,d2,_⟩:=jW hf a7 c2 c4;rw [e2];exact⟨d1,fun j x p hx hp=>(d2 j x p hx hp).free (ue e3 hx)⟩
     rcases a7 with ⟨a7,a8⟩ | a7
     ·have a8:b.row=true:=by
       cases hr:b.row with
       | true=>rfl
       | false=>rw [hr] at a8;exact hr▸oH a8
      rw [a8] at c4;rw [a5,a7,a8];exact⟨c2,c4⟩
     ·rw [← a5] at c4;cases dP:b'.row with
      | true=>
       rw [dP] at c4;have hf0:Ak w P noAdr fz:=fun c b k _ g hg=>nomatch hg
       obtain⟨d1,d2,_⟩:=jW hf0 a7 c2 c4;have e:gw (dw n0 σ) noAdr=noAdr:=by
        funext c;unfold gw;cases dw n0 σ c <;> rfl
       rw [e] at d2;exact⟨d1,d2⟩
      | false=>
       rw [dP] at c4;obtain⟨d1,d2,_⟩:=jW hf a7 c2 c4;exact⟨d1,d2⟩
    have hpe:b.pe≤b'.pe∧b'.pe≤b'.l.length:=by
     have:=b2.le;rcases a6 with a6 | a6
     ·rw [a6,← hl.1,c2];exact⟨b₂ _,this⟩
     ·exact a6
    exact⟨.inl ⟨cur,parts,by rw [a3];exact c1,hl.1,by rw [a4];exact c3,hl.2,c5⟩,fun o ho=>a₇ (b2.pe o ho) (by rw [a4];exact a₄ _ hpe.1),hpe.2⟩
 ·unfold gw at hg BA;cases pW:dw n0 σ c with
  | none=>rw [pW] at hg;cases hg
  | some c0=>
   cases hd0:dw n0 σ d with
   | none=>rw [hd0] at BA;cases BA
   | some d0=>
    rw [pW] at hg;rw [hd0] at BA;have k1: ∃b,VM.get M c0=some b:=by
     rcases Am h5 hc with ⟨_,_,_,a4⟩ | ⟨c1,b,a1,a2,_⟩
     ·rw [pW] at a4;cases a4
     ·rw [pW] at a1;injection a1 with a1;subst a1;exact⟨b,a2⟩
    have k2: ∃b,VM.get M d0=some b:=by
     rcases Am h5 hd with ⟨_,_,_,a4⟩ | ⟨c1,b,a1,a2,_⟩
     ·rw [hd0] at a4;cases a4
     ·rw [hd0] at a1;injection a1 with a1;subst a1;exact⟨b,a2⟩
    obtain⟨b1,k1⟩:=k1;obtain⟨b2,k2⟩:=k2;have:=hI.inj c0 d0 b1 b2 g k1 k2 hg BA;subst this;exact hσ.inj pW hd0
theorem s9 {M':VM} {n' c:Nat} (h3:M'.all (fun x=>b₁ x.1 n')=true) (hc:n'≤c):VM.get M' c=none:=by
 rw [b₉] at h3;cases hx:VM.get M' c with
 | none=>rfl
 | some b=>
  have:=h3 _ (VM.get_mem hx);have:c < n':=by simpa [c₀] using this
  omega
theorem ln {n0 n' c:Nat} {σ:List (Nat×Nat)} (hσ:KO n0 n' σ) (hc:n'≤c):gw (dw n0 σ) adr c=none:=by
 unfold gw;cases hx:dw n0 σ c with
 | none=>rfl
 | some d=>have:=hσ.lt hx;omega
theorem jG.frozen {P':cB} (h:jG w0 ex0 P0 w P adr) (k:bJ w w P P' adr adr):jG w0 ex0 P0 w P' adr:=⟨h.in_,h.old,h.keep.trans k⟩
theorem jG.matched {n':Nat} {σ:List (Nat×Nat)} (h:jG w0 ex0 P0 w P adr) (hσ:KO ex0.n0 n' σ):jG w0 ex0 P0 w P (gw (dw ex0.n0 σ) adr):=by
 refine⟨fun c g hc=>?_,fun c hc=>?_,⟨h.keep.prot,h.keep.cell,fun c g hc=>?_,h.keep.size⟩⟩
 ·unfold gw at hc;cases pW:dw ex0.n0 σ c with
  | none=>rw [pW] at hc;cases hc
  | some c0=>rw [pW] at hc;exact h.in_ c0 g hc
 ·simp only [gw,hσ.same hc,d₁];exact h.old c hc
 ·simp only [gw,hσ.same (ex0.lt c g hc),d₁];exact h.keep.num c g hc
theorem qL.matched {E':VE} {M':VM} {n':Nat} (hs:qL N w0 ex0 P0 (VE.get E) (VM.get M) n a w) (h:iy ex0.n0 E' M' n' E M):qL N w0 ex0 P0 (VE.get E') (VM.get M') n' a w:=by
 obtain⟨σ,bs,h1,h2,h3,h4,h5⟩:=h;obtain⟨P,adr,hI,hE,qA,jF,sL⟩:=hs.ex;have hσ:=ll h1;obtain⟨P',i1,i2,i3,i4⟩:=hI.frozen h2;refine⟨⟨P',gw (dw ex0.n0 σ) adr,i1.matched hσ i4 h5,fun t v ht=>?_,fun c hc=>ln hσ hc,(jF.frozen i2).matched hσ,fun b o ho=>?_⟩,fun c hc=>s9 h3 hc,hσ.le,hs.since,hs.defers,hs.size⟩
 ·obtain⟨v0,e1,e2⟩:=ER h4 ht;obtain⟨u,e3,e4⟩:=hE t v0 e1;exact⟨u,e3,sZ i4 e2 (e4.keep i2)⟩
 ·rcases i3 b o ho with h | ⟨c,h⟩
  ·exact sL b o h
  ·rcases jF.in_ c b h with h | h
   ·exact .inr (.inl h)
   ·exact .inr (.inr h)
end
end
section
def yN (Pg:Program) (f:FuncId) (dY:Array Value) (w:World) (Q:Ending→World→Prop):Prop:=
 ∃v w',(callFunc f dY).run Pg w= .ok (.value v) w'∧Q (.returned v) w'
theorem yN.mono {Pg:Program} {f:FuncId} {dY:Array Value} {w:World} {Q R:Ending→World→Prop} (h:yN Pg f dY w Q) (hq: ∀e w,Q e w→R e w):yN Pg f dY w R:=by
 obtain⟨v,w',h1,h2⟩:=h;exact⟨v,w',h1,hq _ _ h2⟩
def Tg (C:Program→FuncId→Array Value→World→(Ending→World→Prop)→Prop) (Pg:Program) (G:GS) (f:FuncId) (args:List MV) (M0:VM) (n0:Nat) (res:MV) (M1:VM) (n1:Nat):Prop:=
 ∀(w:World) (P:cB) (adr:gG) (dY:List Value),G.ok w→bf w P adr (VM.get M0)→(∀c,n0≤c→adr c=none)→(∀c g,adr c=some g→¬ G.L g)→dI w P adr args dY→
  C Pg f dY.toArray w fun e w'=> ∃v,e= .returned v∧∃P' aN,bf w' P' aN (VM.get M1)∧aM w' P' aN res v∧bJ w w' P P' adr aN∧(∀c,c < n0→aN c=adr c)∧(∀c,n1≤c→aN c=none)∧
   (∀c g,aN c=some g→w.heap.size≤g∨∃c0,adr c0=some g)∧(∀b o,P' b o→P b o∨w.heap.size≤b∨∃c0,adr c0=some b)∧db (fun g=> ∃c0,adr c0=some g) w w'
def aT (Pg:Program) (G:GS) (f:FuncId) (args:List MV) (M0:VM) (n0:Nat) (res:MV) (M1:VM) (n1:Nat):Prop:=Tg (fun P f a w Q=>Calls P f a w Q) Pg G f args M0 n0 res M1 n1
def Th (Pg:Program) (G:GS) (f:FuncId) (args:List MV) (M0:VM) (n0:Nat) (res:MV) (M1:VM) (n1:Nat):Prop:=Tg yN Pg G f args M0 n0 res M1 n1
def GN (C:Program→FuncId→Array Value→World→(Ending→World→Prop)→Prop) (Pg:Program) (G:GS) (f:FuncId) (args:List MV) (M0:VM) (n0:Nat) (Φ:MV→VM→Nat→Prop):Prop:=
 ∀(w:World) (P:cB) (adr:gG) (dY:List Value),G.ok w→bf w P adr (VM.get M0)→(∀c,n0≤c→adr c=none)→(∀c g,adr c=some g→¬ G.L g)→dI w P adr args dY→
  C Pg f dY.toArray w fun e w'=> ∃v,e= .returned v∧∃(res:MV) (M1:VM) (n1:Nat),Φ res M1 n1∧∃P' aN,bf w' P' aN (VM.get M1)∧aM w' P' aN res v∧bJ w w' P P' adr aN∧(∀c,c < n0→aN c=adr c)∧(∀c,n1≤c→aN c=none)∧
   (∀c g,aN c=some g→w.heap.size≤g∨∃c0,adr c0=some g)∧(∀b o,P' b o→P b o∨w.heap.size≤b∨∃c0,adr c0=some b)∧db (fun g=> ∃c0,adr c0=some g) w w'
def vQ (Pg:Program) (G:GS) (f:FuncId) (args:List MV) (M0:VM) (n0:Nat) (Φ:MV→VM→Nat→Prop):Prop:=GN (fun P f a w Q=>Calls P f a w Q) Pg G f args M0 n0 Φ
def Ca (Pg:Program) (G:GS) (f:FuncId) (args:List MV) (M0:VM) (n0:Nat) (Φ:MV→VM→Nat→Prop):Prop:=GN yN Pg G f args M0 n0 Φ
theorem Cb {C:Program→FuncId→Array Value→World→(Ending→World→Prop)→Prop} (hC: ∀{Pg:Program} {f:FuncId} {dY:Array Value} {w:World} {Q R:Ending→World→Prop},C Pg f dY w Q→(∀e w,Q e w→R e w)→C Pg f dY w R)
  {Pg:Program} {G:GS} {f:FuncId} {args:List MV} {M0:VM} {n0:Nat} {res:MV} {M1:VM} {n1:Nat} {Φ:MV→VM→Nat→Prop} (h:Tg C Pg G f args M0 n0 res M1 n1) (hΦ:Φ res M1 n1):GN C Pg G f args M0 n0 Φ:=by
 intro w P adr dY a1 a2 a3 a4 a5
 refine hC (h w P adr dY a1 a2 a3 a4 a5) ?_
 rintro e w' ⟨v,h1,h2⟩
 exact⟨v,h1,res,M1,n1,hΦ,h2⟩
mutual
def dJ (ρ:Nat→Nat):MV→MV
 | .ptr c es k fo path=> .ptr (ρ c) es k fo path
 | .ms c es off n=> .ms (ρ c) es off n
 | .mp c=> .mp (ρ c)
 | .st l=>bif MV.idFrees l then .st l else .st (renVs ρ l)
 | .fn f l=>bif MV.idFrees l then .fn f l else .fn f (renVs ρ l)
 | .tup l=> .tup (renVs ρ l)
 | .ifc t v=>bif MV.idFree v then .ifc t v else .ifc t (dJ ρ v)
 | m=>m
def renVs (ρ:Nat→Nat):List MV→List MV
 | [] => []
 | m :: l=>dJ ρ m :: renVs ρ l
end
def kU (ρ:Nat→Nat):VM→VM
 | [] => []
 | (c,b) :: M=>(ρ c,{ b with l:=bif b.row then b.l else renVs ρ b.l }) :: kU ρ M
def jw:VM→List (Nat×Nat)→VM
 | M,[] =>M
 | M,(_,c) :: σ=>jw (VM.del M c) σ
def ug (n:Nat) (σ:List (Nat×Nat)) (c:Nat):Nat:=match oP σ c with | some d=>d | none=>n + c
def jj (M:VM):List (Nat×Nat)→Bool
 | [] =>true
 | (_,c) :: σ=>(VM.get M c).isSome && jj M σ
def FzM (n:Nat) (E':VE) (M':VM) (E:VE) (M:VM):Prop:=
 ∃bs:List (Nat×Nat),EP M bs∧M'.all (fun x=>b₁ x.1 n)=true∧mE (dw n []) (lU M bs) E' E∧mM (dw n []) (lU M bs) M' (VM.bump M bs)
inductive Rt (n:Nat) (K:VE→VM→Prop):VE→VM→Prop
 | go {E:VE} {M:VM} (h:K E M):Rt n K E M
 | re {E:VE} {M:VM} (E':VE) (M':VM) (h:FzM n E' M' E M) (k:Rt n K E' M'):Rt n K E M
section
variable (Pg:Program) (T:bD) (N:Nat) (ents:List FuncId) (G:GS)
def eI (E:VE) (f:Operand) (args:List Operand):bz (FuncId×List MV):=
 rd (VE.get E) f fun fv=>oM (VE.get E) args fun vs=>match fv with
  | .fn f0 caps=> .ret (f0,vs ++ caps)
  | _=> .bad
def kc (S:Program→GS→FuncId→List MV→VM→Nat→(MV→VM→Nat→Prop)→Prop) (M:VM) (n:Nat) (f:FuncId) (vs:List MV) (K:MV→VM→Nat→Prop):Prop:=
 ∃(args:List MV) (M0:VM) (n0:Nat) (Φ:MV→VM→Nat→Prop),S Pg G f args M0 n0 Φ∧
  ∃(σ bs:List (Nat×Nat)),fg 0 args M0 n0 vs M σ bs∧jj M σ=true∧∀(res:MV) (M1:VM) (n1:Nat),Φ res M1 n1→M1.all (fun x=>b₁ x.1 n1)=true∧K (dJ (ug n σ) res) (kU (ug n σ) M1 ++ jw (VM.bump M bs) σ) (n + n1)
def kC (n:Nat) (σ:List (Nat×Nat)) (c:Nat):Nat:=match oP σ c with | some d=>d | none=>n
def yi (l S:List Nat):Bool:=l.all fun c=>S.any fun x=>a₂ x c
def GO (σ:List (Nat×Nat)) (n0 n1:Nat) (M1:VM):Bool:=c₄ n1 (n0 + 1) && M1.all fun x=>(oP σ x.1).isSome || (a₂ x.1 n0 && b₁ n0 n1)
def nz (M:VM) (n:Nat) (f:FuncId) (vs:List MV) (fp:List Nat) (K:MV→VM→Prop):Prop:=
 ∃(args:List MV) (M0:VM) (n0:Nat) (res:MV) (M1:VM) (n1:Nat),aT Pg G f args M0 n0 res M1 n1∧
  ∃(σ bs:List (Nat×Nat)),fg 0 args M0 n0 vs M σ bs∧jj M σ=true∧GO σ n0 n1 M1=true∧yi (σ.map (·.2)) fp=true∧yi (bs.map (·.1)) fp=true∧K (dJ (kC n σ) res) (kU (kC n σ) M1 ++ jw (VM.bump M bs) σ)
def An (E:VE) (o:Oper):Option (Nat×Bool):=match o.op with
 | .binOp op t x (.const (.slice none 0 0)) _=>match jL (VE.get E) x with
  | some (.sl n _)=>match bD.find T t with
   | some (.slice _ _)=>match op with
    | .eql=>some (n,false)
    | .neq=>some (n,true)
    | _=>none
   | _=>none
  | _=>none
 | _=>none
def ta (E:VE) (M:VM) (o:Oper):Option Nat:=match o.op with
 | .call c=>match c.callee with
  | .builtin .len=>match c.args.toList,c.argTypes.toList with
   | [x],[t] =>match jL (VE.get E) x with
    | some (.mp c)=>match VM.get M c with
     | some b=>match b.l with
      | [.mpv ks vs] =>match Pg.underlying t with
       | some (.map _ _)=>if vs.length=ks.length then some ks.length else none
       | _=>none
      | _=>none
     | none=>none
    | _=>none
   | _,_=>none
  | _=>none
 | _=>none
def Sb (E:VE) (M:VM) (o:Oper) (K:Nat→Prop):Prop:= ∃k:Nat,ta Pg E M o=some k∧K k
def Sc (o:Oper) (E:VE) (M:VM) (n:Nat) (K:MV→VM→Nat→Prop):Prop:=match o.op with
 | .call c=>match c.callee with
  | .value f=>(yh Pg T ents G o E M n fun r M'=>K r M' (n + 1))∨(eI E f c.args.toList).runP fun x=>match ents.contains x.1 with
   | true=>kc Pg G vQ M n x.1 x.2 K
   | false=>kc Pg G Ca M n x.1 x.2 K
  | .builtin _=>((jv Pg T (VE.get E) (VM.get M) n o).runP fun x=>K x.1 (x.2.app n M) (n + 1))∨Sb Pg E M o fun k=>K (.int .i64 k) M (n + 1)
  | _=>(jv Pg T (VE.get E) (VM.get M) n o).runP fun x=>K x.1 (x.2.app n M) (n + 1)
 | _=>(jv Pg T (VE.get E) (VM.get M) n o).runP fun x=>K x.1 (x.2.app n M) (n + 1)
def vR (o:Oper) (E:VE) (M:VM) (n:Nat) (K:MV→VM→Nat→Prop):Prop:=match An T E o with
 | some (k,neg)=> ∀b:Bool,(b=true→k=0)→K (.bool (match neg with | true=> !b | false=>b)) M (n + 1)
 | none=>Sc Pg T ents G o E M n K
def Ao (ops:Array Oper) (o:Oper) (K:VK) (E:VE) (M:VM) (n:Nat):Prop:=match o.guard with
 | none=>vR Pg T ents G o E M n fun r M n=>eY N o.dst r E fun E=>K E M n
 | some (j,want)=>match (ops[j]?).bind (·.dst) with
  | none=>False
  | some s=>match VE.get E s with
   | some (.bool t)=>
    (t=want→vR Pg T ents G o ((s, .bool want) :: E) M n fun r M n=>eY N o.dst r ((s, .bool want) :: E) fun E=>K E M n)∧
    (t= !want→eY N o.dst .undef ((s, .bool (!want)) :: E) fun E=>K E M (n + 1))
   | some .undef=>eY N o.dst .undef E fun E=>K E M (n + 1)
   | _=>False
def ak (ops:Array Oper):List Oper→VK→VK
 | [],K=>K
 | o :: rest,K=>fun E M n=>Rt n (fun E M=>Ao Pg T N ents G ops o (ak ops rest K) E M n) E M
end
section
variable {Pg:Program} {T:bD} {N:Nat} {ents:List FuncId} {G:GS} {w0 w w':World} {ex0:Iy} {P0 P P':cB} {adr aN xM:gG} {E:VE} {M:VM} {m:FM} {n:Nat} {a:Act} {r:MV} {u:Value} {δ:Dl} {ev:Nat→Option MV}
mutual
theorem qO {ρ:Nat→Nat}: ∀m:MV,(dJ ρ m).isAgg=m.isAgg
 | .st l=>by simp only [dJ];cases MV.idFrees l <;> rfl
 | .fn f l=>by simp only [dJ];cases MV.idFrees l <;> rfl
 | .ifc t v=>by simp only [dJ];cases MV.idFree v <;> rfl
 | .ptr .. =>rfl
 | .ms .. =>rfl
 | .mp .. =>rfl
 | .mpv .. =>rfl
 | .tup .. =>rfl
 | .int .. =>rfl
 | .bool .. =>rfl
 | .str .. =>rfl
 | .nilp=>rfl
 | .gp .. =>rfl
 | .ep .. =>rfl
 | .sl .. =>rfl
 | .nils=>rfl
 | .nilf=>rfl
 | .nili=>rfl
 | .arr .. =>rfl
 | .undef=>rfl
theorem yO {ρ:Nat→Nat}: ∀l:List MV,(renVs ρ l).map MV.isAgg=l.map MV.isAgg
 | [] =>rfl
 | m :: l=>by simp only [renVs,c₅,qO m,yO l]
end
theorem iN {ρ:Nat→Nat}: ∀(l:List MV) (j:Nat),(renVs ρ l)[j]? =(l[j]?).map (dJ ρ)
 | [],j=>by simp [renVs]
 | m :: l,0=>by simp [renVs]
 | m :: l,j + 1=>by simp [renVs,iN l j]
theorem gy {ρ:Nat→Nat}: ∀(l:List MV),(renVs ρ l).length=l.length
 | [] =>rfl
 | m :: l=>by simp [renVs,gy l]
theorem qP {ρ:Nat→Nat} {m:MV} {cs:List Value} (h:dk w P adr m cs):(∀c g,adr c=some g→xM (ρ c)=some g)→dk w P xM (dJ ρ m) cs:=by
 induction h with
 | ptr g h=>intro k;exact .ptr g (k _ _ h)
 | ms g o cap h ho iq sE gM=>intro k;exact .ms g o cap (k _ _ h) ho iq sE gM
 | ms0=>intro _;exact .ms0
 | mp g h=>intro k;exact .mp g (k _ _ h)
 | st parts hp hr ih=>
  rename_i adr l;intro k;simp only [dJ];cases hf:MV.idFrees l with
  | true=>exact ((dk.st parts hp hr).free hf).ofNone
  | false=>
   refine .st parts (by rw [gy];exact hp) fun j x p hx hq=>?_
   rw [iN] at hx;cases hj:l[j]? with
   | none=>rw [hj] at hx;cases hx
   | some y=>rw [hj] at hx;injection hx with hx;subst hx;exact ih j y p hj hq k
 | fn parts hp hr ih=>
  rename_i adr f l;intro k;simp only [dJ];cases hf:MV.idFrees l with
  | true=>exact ((dk.fn parts hp hr).free hf).ofNone
  | false=>
   show dk w P xM (.fn f (renVs ρ l)) _
   rw [← qM (yO (ρ:=ρ) l)];refine .fn parts (by rw [gy];exact hp) fun j x p hx hq=>?_
   rw [iN] at hx;cases hj:l[j]? with
   | none=>rw [hj] at hx;cases hx
   | some y=>rw [hj] at hx;injection hx with hx;subst hx;exact ih j y p hj hq k
 | ifc cs hr ih=>
  rename_i adr t v;intro k;simp only [dJ];cases hf:MV.idFree v with
  | true=>exact ((dk.ifc cs hr).free hf).ofNone
  | false=>
   have e:valM v cs=valM (dJ ρ v) cs:=by unfold valM;rw [qO]
   show dk w P xM (.ifc t (dJ ρ v)) _
   rw [e];exact .ifc cs (ih k)
 | int=>intro _;exact .int
 | bool=>intro _;exact .bool
 | str=>intro _;exact .str
 | nilp=>intro _;exact .nilp
 | gp=>intro _;exact .gp
 | ep b o vs hc hr ih=>intro _;exact .ep b o vs hc hr
 | sl A cap es parts hl hp ej OJ iq hc hr ih=>intro _;exact .sl A cap es parts hl hp ej OJ iq hc hr
 | nils=>intro _;exact .nils
 | nilf=>intro _;exact .nilf
 | nili=>intro _;exact .nili
 | arr parts hl hp ej hr ih=>intro _;exact .arr parts hl hp ej hr
theorem vS {ρ:Nat→Nat} {m:MV} {u:Value} (h:aM w P adr m u) (k: ∀c g,adr c=some g→xM (ρ c)=some g):aM w P xM (dJ ρ m) u:=by
 cases h with
 | val cs h=>
  have e:valM m cs=valM (dJ ρ m) cs:=by unfold valM;rw [qO]
  rw [e];exact .val cs (qP h k)
 | undef=>exact .undef
 | tup vs hl h=>
  rename_i l;refine .tup vs (by rw [gy];exact hl) fun j x u hx hu=>?_
  rw [iN] at hx;cases hj:l[j]? with
  | none=>rw [hj] at hx;cases hx
  | some y=>
   rw [hj] at hx;injection hx with hx
   subst hx;obtain⟨cs,h1,h2⟩:=h j y u hj hu;have e:valM y cs=valM (dJ ρ y) cs:=by unfold valM;rw [qO]
   exact⟨cs,qP h1 k,by rw [h2,e]⟩
theorem get_app: ∀(A B:VM) (x:Nat),VM.get (A ++ B) x=match VM.get A x with | some b=>some b | none=>VM.get B x
 | [],B,x=>rfl
 | (c,b) :: A,B,x=>by
  show VM.get ((c,b) :: (A ++ B)) x=_
  rw [VM.get_cons,VM.get_cons,get_app A B x]
  split <;> rfl
theorem nA: ∀(σ:List (Nat×Nat)) (M:VM) (x:Nat) (b:MB),VM.get (jw M σ) x=some b→VM.get M x=some b∧∀c,(c,x) ∉ σ
 | [],M,x,b,h=>⟨h,fun _ h=>nomatch h⟩
 | (c,d) :: σ,M,x,b,h=>by
  obtain⟨h1,h2⟩:=nA σ (VM.del M d) x b h
  rw [VM.get_del] at h1
  obtain⟨h3,h4⟩:=oL h1
  refine⟨h4,fun c' hc=>?_⟩
  rcases b₄.1 hc with e | hc
  ·injection e with e1 e2;exact h3 e2
  ·exact h2 c' hc
theorem lp {ρ:Nat→Nat}: ∀(M1:VM) (x:Nat) (b:MB),VM.get (kU ρ M1) x=some b→(∀c d b b',VM.get M1 c=some b→VM.get M1 d=some b'→ρ c=ρ d→c=d)→∃c b0,x=ρ c∧VM.get M1 c=some b0∧b={ b0 with l:=bif b0.row then b0.l else renVs ρ b0.l }
 | [],x,b,h,_=>by cases h
 | (c,b0) :: M1,x,b,h,hi=>by
  have h':VM.get ((ρ c,{ b0 with l:=bif b0.row then b0.l else renVs ρ b0.l }) :: kU ρ M1) x=some b:=h
  rw [VM.get_cons] at h'
  split at h'
  ·rename_i e
   injection h' with h'
   exact⟨c,b0,e.symm,by rw [VM.get_cons,if_pos rfl],h'.symm⟩
  ·rename_i gf
   have hi2: ∀c d b b',VM.get M1 c=some b→VM.get M1 d=some b'→ρ c=ρ d→c=d:=by
    intro c1 d1 b1 b1' h1 h2 h3
    have q: ∀{z:Nat} {y:MB},VM.get M1 z=some y→∃y,VM.get ((c,b0) :: M1) z=some y:=by
     intro z y hz
     rw [VM.get_cons]
     split
     ·exact⟨_,rfl⟩
     ·exact⟨_,hz⟩
    obtain⟨_,q1⟩:=q h1
    obtain⟨_,q2⟩:=q h2
    exact hi c1 d1 _ _ q1 q2 h3
   obtain⟨c1,b1,h1,h2,h3⟩:=lp M1 x b h' hi2
   refine⟨c1,b1,h1,?_,h3⟩
   rw [VM.get_cons,if_neg]
   ·exact h2
   ·rintro rfl;exact gf h1.symm
theorem iO: ∀{σ:List (Nat×Nat)},jj M σ=true→∀c d,(c,d)∈σ→∃b,VM.get M d=some b
 | (x,y) :: σ,h,c,d,hm=>by
  have h:((VM.get M y).isSome && jj M σ)=true:=h
  rw [a₀] at h
  rcases b₄.1 hm with e | hm
  ·injection e with e1 e2
   subst e2
   exact Option.isSome_iff_exists.1 h.1
  ·exact iO h.2 c d hm
theorem qQ: ∀{bs:List (Nat×Nat)} {x:Nat} {b:MB},VM.get (VM.bump M bs) x=some b→∃b',VM.get M x=some b':=by
 intro bs x b h;rw [VM.get_bump,bumpF_get] at h;cases hx:VM.get M x with
 | none=>rw [hx] at h;cases h
 | some b'=>exact ⟨b',rfl⟩
theorem pM {bs:List (Nat×Nat)} {x:Nat} {b:MB} (h:VM.get M x=some b): ∃b',VM.get (VM.bump M bs) x=some b':=by
 rw [VM.get_bump,bumpF_get,h];exact⟨_,rfl⟩
theorem GP {n0:Nat} {σ:List (Nat×Nat)} (h:uH 0 n0 σ=true):IA σ=true:=by
 unfold uH at h;simp only [a₀] at h;exact h.1.2
theorem dI.kp {l:List MV} {vs:List Value} (h:dI w P adr l vs) (k:bJ w w' P P' adr aN):dI w' P' aN l vs:=by
 induction h with
 | nil=>exact .nil
 | cons h _ ih=>exact .cons (h.keep k) ih
theorem qL.frz {N:Nat} {E':VE} {M':VM} (hs:qL N w0 ex0 P0 (VE.get E) (VM.get M) n a w) (h:FzM n E' M' E M):qL N w0 ex0 P0 (VE.get E') (VM.get M') n a w:=by
  obtain⟨bs,h2,h3,h4,h5⟩:=h;obtain⟨P,adr,hI,hE,qA,jF,sL⟩:=hs.ex;have hσ:KO n n [] :=ll (by simp [uH,IA]);obtain⟨P',i1,i2,i3,i4⟩:=hI.frozen h2;have e:gw (dw n []) adr=adr:=by
    funext c;unfold gw dw;rcases b₆ c n with h | h
    · have hb:b₁ c n=true:=by simpa [c₀] using h
      rw [hb];rfl
    · have hb:b₁ c n=false:=by
        cases hb:b₁ c n with
        | false=>rfl
        | true => have : c < n := by simpa [c₀] using hb
                  omega
      rw [hb,qA c h];rfl
  have j1:=i1.matched hσ i4 h5;rw [e] at j1;refine⟨⟨P',adr,j1,fun t v ht=>?_,qA,jF.frozen i2,fun b o ho=>?_⟩,fun c hc=>s9 h3 hc,hs.ge,hs.since,hs.defers,hs.size⟩
  · obtain⟨v0,e1,e2⟩:=ER h4 ht;obtain⟨u,e3,e4⟩:=hE t v0 e1;have:=sZ i4 e2 (e4.keep i2);rw [e] at this;exact⟨u,e3,this⟩
  · rcases i3 b o ho with h | ⟨c,h⟩
    · exact sL b o h
    · rcases jF.in_ c b h with h | h
      · exact .inr (.inl h)
      · exact .inr (.inr h)
theorem yP {C:Program→FuncId→Array Value→World→(Ending→World→Prop)→Prop} (hC: ∀{Pg:Program} {f:FuncId} {dY:Array Value} {w:World} {Q R:Ending→World→Prop},C Pg f dY w Q→(∀e w,Q e w→R e w)→C Pg f dY w R) (hS:lj Pg T ents G w0 ex0) {f:FuncId} {vs:List MV} {dY:List Value} {K:MV→VM→Nat→Prop} (h:kc Pg G (GN C) M n f vs K) (xO:db ex0.ex w0 w) (SM: ∀c,n≤c→VM.get M c=none) (Ko:ex0.n0≤n)
  (hI:bf w P adr (VM.get M)) (hE:hJ w P adr (VE.get E) a) (qA: ∀c,n≤c→adr c=none) (jF:jG w0 ex0 P0 w P adr) (sL: ∀b o,P b o→P0 b o∨w0.heap.size≤b∨ex0.ex b) (tU:dI w P adr vs dY) :
  C Pg f dY.toArray w fun e w'=> ∃v,e= .returned v∧∃r M' n',K r M' n'∧∃P' aN,bf w' P' aN (VM.get M')∧hJ w' P' aN (VE.get E) a∧aM w' P' aN r v∧(∀c,n'≤c→aN c=none)∧jG w0 ex0 P0 w' P' aN∧(∀b o,P' b o→P0 b o∨w0.heap.size≤b∨ex0.ex b)∧(∀c,n'≤c→VM.get M' c=none)∧ex0.n0≤n'∧db ex0.ex w0 w':=by
 obtain⟨args,M0,n0,Φ,sK,σ,bs,⟨eG,Ge,fF,Gi,OK⟩,xJ,Oi⟩:=h
 have hσ:=ll eG
 have Gp:=GP eG
 obtain⟨Pb,i1,i2,i3,i4⟩:=hI.frozen Ge
 have Ov:=i1.matched hσ i4 OK
 have dj:=(ji i4 Gi (tU.kp i2)).1
 have eσ: ∀c,gw (dw 0 σ) adr c=(oP σ c).bind adr:=fun c=>rfl
 have SP: ∀{c d},oP σ c=some d→d < n:=fun {c d} hc=>by
  obtain⟨b,hb⟩:=iO xJ c d (gx hc)
  rcases b₆ d n with h | h
  ·exact h
  ·rw [SM d h] at hb;cases hb
 have jE: ∀{c g},gw (dw 0 σ) adr c=some g→∃d,oP σ c=some d∧adr d=some g:=fun {c g} hc=>by
  rw [eσ] at hc
  cases hd:oP σ c with
  | none=>rw [hd] at hc;cases hc
  | some d=>rw [hd] at hc;exact⟨d,rfl,hc⟩
 have hL: ∀c g,adr c=some g→¬ G.L g:=fun c g hc hl=>by
  rcases jF.in_ c g hc with h | h
  ·have:=hS.lt g hl;omega
  ·exact hS.out g h hl
 refine hC (sK w Pb _ dY (hS.good w xO) Ov (fun c hc=>ln hσ hc) (fun c g hc=>by obtain⟨d,_,hd⟩:=jE hc;exact hL d g hd) dj) ?_
 rintro e w' ⟨v,rfl,res,M1,n1,hΦ,P',aN,j1,j2,j3,j4,j5,j6,j7,j8⟩
 obtain⟨uF,hK⟩:=Oi _ _ _ hΦ
 refine⟨v,rfl,_,_,_,hK,P',fun x=>if x < n then adr x else aN (x - n),?_⟩
 have hold: ∀{x},x < n→(fun x=>if x < n then adr x else aN (x - n)) x=adr x:=fun {x} hx=>by simp [hx]
 have xQ: ∀{c},(fun x=>if x < n then adr x else aN (x - n)) (n + c)=aN c:=fun {c}=>by
  have: ¬ n + c < n:=om
  simp [this]
 have Yr: ∀{x g},adr x=some g→x < n:=fun {x g} hx=>by
  rcases b₆ x n with h | h
  ·exact h
  ·rw [qA x h] at hx;cases hx
 have xH: ∀c,(fun x=>if x < n then adr x else aN (x - n)) (ug n σ c)=aN c:=fun c=>by
  unfold ug
  cases hd:oP σ c with
  | none=>exact xQ
  | some d=>
   rw [hold (SP hd)]
   have hc:c < n0:=hσ.lt (c:=c) (d:=d) hd
   rw [j4 c hc,eσ,hd];rfl
 have kb:bJ w w' Pb P' adr (fun x=>if x < n then adr x else aN (x - n)):=by
  refine⟨j3.prot,j3.cell,fun c g hc=>(hold (Yr hc)).trans hc,fun c g cur ty hc hw=>?_⟩
  by_cases hp: ∃c0,gw (dw 0 σ) adr c0=some g
  ·obtain⟨c0,pW⟩:=hp
   exact j3.size c0 g cur ty pW hw
  ·exact⟨cur,(j8.block g (Array.getElem?_eq_some_iff.1 hw).1 hp).trans hw,rfl⟩
 have k:=i2.trans kb
 have On: ∀c d b b',VM.get M1 c=some b→VM.get M1 d=some b'→ug n σ c=ug n σ d→c=d:=by
  intro c d b b' _ _ h
  unfold ug at h
  cases hc:oP σ c with
  | none=>
   cases hd:oP σ d with
   | none=>rw [hc,hd] at h;simp only at h;omega
   | some y=>rw [hc,hd] at h;simp only at h;have:=SP hd;omega
  | some x=>
   cases hd:oP σ d with
   | none=>rw [hc,hd] at h;simp only at h;have:=SP hc;omega
   | some y=>rw [hc,hd] at h;simp only at h;subst h;exact uW Gp hc hd
 have oG: ∀{x b},VM.get (kU (ug n σ) M1 ++ jw (VM.bump M bs) σ) x=some b→(∃c b0,x=ug n σ c∧VM.get M1 c=some b0∧b={ b0 with l:=bif b0.row then b0.l else renVs (ug n σ) b0.l })∨(VM.get (VM.bump M bs) x=some b∧x < n∧∀c,(c,x) ∉ σ):=by
  intro x b hx
  rw [get_app] at hx
  split at hx
  ·rename_i b' px
   injection hx with hx
   subst hx
   exact .inl (lp M1 x b' px On)
  ·obtain⟨h1,h2⟩:=nA σ _ x b hx
   obtain⟨b',h3⟩:=qQ h1
   refine .inr ⟨h1,?_,h2⟩
   rcases b₆ x n with h | h
   ·exact h
   ·rw [SM x h] at h3;cases h3
 have U5: ∀{c b},VM.get M1 c=some b→c < n1:=fun {c b} hc=>by
  rcases b₆ c n1 with h | h
  ·exact h
  ·rw [s9 uF h] at hc;cases hc
 have Oz: ∀{x b g},VM.get (VM.bump M bs) x=some b→(∀c,(c,x) ∉ σ)→adr x=some g→¬ ∃c0,gw (dw 0 σ) adr c0=some g:=by
  rintro x b g hx hn hg ⟨c0,pW⟩
  obtain⟨d,h1,h2⟩:=jE pW
  obtain⟨b',px⟩:=iO xJ c0 d (gx h1)
  obtain⟨b'',UI⟩:=pM (bs:=bs) px
  have:=i1.inj x d b b'' g hx UI hg h2
  subst this
  exact hn c0 (gx h1)
 refine⟨⟨fun x b hx=>?_,fun x y bx Eh g hx hy pK pI=>?_,j1.prot⟩,fun t z ht=>?_,vS j2 fun c g hc=>(xH c).trans hc,fun c hc=>?_,⟨fun c g hc=>?_,fun c hc=>(hold om).trans (jF.old c hc),jF.keep.trans k⟩,fun b o ho=>?_,fun c hc=>?_,om,?_⟩
 ·rcases oG hx with ⟨c,b0,rfl,h1,rfl⟩ | ⟨h1,h2,h3⟩
  ·rcases j1.blk c b0 h1 with q | ⟨g,q1,q2⟩
   ·refine .inl ⟨q.1,?_,(xH c).trans q.2.2.1,q.2.2.2⟩
    simp [q.1,q.2.1]
   ·refine .inr ⟨g,(xH c).trans q1,?_⟩
    rcases q2.has' with ⟨cur,parts,c1,c2,c3,c4,c5⟩ | ⟨m1,m2,ks,vs,o,m3,m4,m5⟩
    rotate_left
    ·exact⟨.inr ⟨m1,m2,ks,vs,o,by simp [m1,m3,renVs,dJ],m4,m5⟩,q2.pe,by simp only [m1,cond_false,gy];exact q2.le⟩
    have hlen:(bif b0.row then b0.l else renVs (ug n σ) b0.l).length=b0.l.length:=by
     cases b0.row
     ·exact gy _
     ·rfl
    refine⟨.inl ⟨cur,parts,c1,by simp only [hlen];exact c2,c3,fun j x p hx hp=>?_,c5⟩,q2.pe,by simp only [hlen];exact q2.le⟩
    simp only at hx ⊢
    cases dP:b0.row with
    | true=>rw [dP] at hx c4;exact c4 j x p hx hp
    | false=>
     rw [dP] at hx c4
     simp only [cond_false,iN] at hx
     cases hj:b0.l[j]? with
     | none=>rw [hj] at hx;cases hx
     | some y=>
      rw [hj] at hx
      injection hx with hx
      subst hx
      exact qP (c4 j y p hj hp) fun c g hc=>(xH c).trans hc
  ·rcases i1.blk x b h1 with q | ⟨g,q1,q2⟩
   ·exact .inl ⟨q.1,q.2.1,(hold h2).trans q.2.2.1,q.2.2.2⟩
   ·have Xo:=Oz h1 h3 q1
    refine .inr ⟨g,(hold h2).trans q1,q2.keep kb (j8.block g q2.lt Xo) fun o ho=>?_⟩
    rcases j7 g o ho with h | h | h
    ·exact h
    ·exact absurd q2.lt om
    ·exact absurd h Xo
 ·have Ew: ∀{c x b0 b1},VM.get M1 c=some b0→VM.get (VM.bump M bs) x=some b1→x < n→(∀c,(c,x) ∉ σ)→aN c=some g→adr x=some g→False:=by
   intro c x b0 b1 _ h1 h2 h3 h4 h5
   rcases j6 c g h4 with h | h
   ·rcases i1.blk x b1 h1 with q | ⟨g',q1,q2⟩
    ·rw [h5] at q;cases q.2.2.1
    ·rw [h5] at q1;injection q1 with q1;subst q1;have:=q2.lt;omega
   ·exact Oz h1 h3 h5 h
  rcases oG hx with ⟨c,b0,rfl,h1,rfl⟩ | ⟨h1,h2,h3⟩ <;> rcases oG hy with ⟨d,d0,rfl,k1,rfl⟩ | ⟨k1,k2,k3⟩
  ·rw [j1.inj c d b0 d0 g h1 k1 ((xH c).symm.trans pK) ((xH d).symm.trans pI)]
  ·exact(Ew h1 k1 k2 k3 ((xH c).symm.trans pK) ((hold k2).symm.trans pI)).elim
  ·exact(Ew k1 h1 h2 h3 ((xH d).symm.trans pI) ((hold h2).symm.trans pK)).elim
  ·exact i1.inj x y bx Eh g h1 k1 ((hold h2).symm.trans pK) ((hold k2).symm.trans pI)
 ·obtain⟨u,h1,h2⟩:=hE t z ht
  exact⟨u,h1,h2.keep k⟩
 ·have h1: ¬ c < n:=om
  simp only [h1,if_false]
  exact j5 _ om
 ·by_cases h1:c < n
  ·simp only [h1,if_true] at hc;exact jF.in_ c g hc
  ·simp only [h1,if_false] at hc
   rcases j6 _ g hc with h | ⟨c0,h⟩
   ·exact .inl (b₃ xO.size h)
   ·obtain⟨d,_,hd⟩:=jE h;exact jF.in_ d g hd
 ·rcases j7 b o ho with h | h | ⟨c0,h⟩
  ·rcases i3 b o h with h | ⟨c,h⟩
   ·exact sL b o h
   ·rcases jF.in_ c b h with h | h
    ·exact .inr (.inl h)
    ·exact .inr (.inr h)
  ·exact .inr (.inl (b₃ xO.size h))
  ·obtain⟨d,_,hd⟩:=jE h
   rcases jF.in_ d b hd with h | h
   ·exact .inr (.inl h)
   ·exact .inr (.inr h)
 ·cases hx:VM.get (kU (ug n σ) M1 ++ jw (VM.bump M bs) σ) c with
  | none=>rfl
  | some b=>
   exfalso
   rcases oG hx with ⟨d,b0,rfl,h1,_⟩ | ⟨_,h2,_⟩
   ·have h3:=U5 h1
    unfold ug at hc
    cases hd:oP σ d with
    | none=>rw [hd] at hc;simp only at hc;omega
    | some y=>rw [hd] at hc;simp only at hc;have:=SP hd;omega
   ·omega
 ·refine⟨j8.os.trans xO.os,j8.tape.trans xO.tape,j8.output.trans xO.output,b₃ xO.size j8.size,fun b hb gf=>(j8.block b (a₇ hb xO.size) fun⟨c0,pW⟩=>?_).trans (xO.block b hb gf)⟩
  obtain⟨d,_,hd⟩:=jE pW
  rcases jF.in_ d b hd with h | h
  ·omega
  ·exact gf h
theorem IB (hS:lj Pg T ents G w0 ex0) {f:FuncId} {vs:List MV} {dY:List Value} {fp:List Nat} {K:MV→VM→Prop} (h:nz Pg G M n f vs fp K) (xO:db ex0.ex w0 w) (SM:VM.get M n=none) (Ko:ex0.n0≤n) (Z0:adr n=none)
  (hI:bf w P adr (VM.get M)) (hE:hJ w P adr ev a) (jF:jG w0 ex0 P0 w P adr) (sL: ∀b o,P b o→P0 b o∨w0.heap.size≤b∨ex0.ex b) (tU:dI w P adr vs dY) :
  Calls Pg f dY.toArray w fun e w'=> ∃v,e= .returned v∧∃r M',K r M'∧∃P' adr1,bf w' P' adr1 (VM.get M')∧hJ w' P' adr1 ev a∧aM w' P' adr1 r v∧(∀c,c≠n→adr1 c=adr c)∧jG w0 ex0 P0 w' P' adr1∧(∀b o,P' b o→P0 b o∨w0.heap.size≤b∨ex0.ex b)∧(∀c,c≠n→VM.get M c=none→VM.get M' c=none)∧db ex0.ex w0 w':=by
 obtain⟨args,M0,n0,res,M1,n1,sK,σ,bs,⟨eG,Ge,fF,Gi,OK⟩,xJ,uF,_,_,hK⟩:=h
 unfold GO at uF
 rw [a₀] at uF
 obtain⟨S5,uF⟩:=uF
 have S5:n1≤n0 + 1:=Nat.le_of_ble_eq_true S5
 have hσ:=ll eG
 have Gp:=GP eG
 obtain⟨Pb,i1,i2,i3,i4⟩:=hI.frozen Ge
 have Ov:=i1.matched hσ i4 OK
 have dj:=(ji i4 Gi (tU.kp i2)).1
 have eσ: ∀c,gw (dw 0 σ) adr c=(oP σ c).bind adr:=fun c=>rfl
 have jE: ∀{c g},gw (dw 0 σ) adr c=some g→∃d,oP σ c=some d∧adr d=some g:=fun {c g} hc=>by
  rw [eσ] at hc
  cases hd:oP σ c with
  | none=>rw [hd] at hc;cases hc
  | some d=>rw [hd] at hc;exact⟨d,rfl,hc⟩
 have SP: ∀{c d},oP σ c=some d→d≠n:=fun {c d} hc hd=>by
  obtain⟨b,hb⟩:=iO xJ c d (gx hc)
  rw [hd,SM] at hb;cases hb
 have hL: ∀c g,adr c=some g→¬ G.L g:=fun c g hc hl=>by
  rcases jF.in_ c g hc with h | h
  ·have:=hS.lt g hl;omega
  ·exact hS.out g h hl
 refine(sK w Pb _ dY (hS.good w xO) Ov (fun c hc=>ln hσ hc) (fun c g hc=>by obtain⟨d,_,hd⟩:=jE hc;exact hL d g hd) dj).mono ?_
 rintro e w' ⟨v,rfl,P',aN,j1,j2,j3,j4,j5,j6,j7,j8⟩
 refine⟨v,rfl,_,_,hK,P',fun x=>if x=n then aN n0 else adr x,?_⟩
 have hold: ∀{x},x≠n→(fun x=>if x=n then aN n0 else adr x) x=adr x:=fun {x} hx=>by simp [hx]
 have xQ:(fun x=>if x=n then aN n0 else adr x) n=aN n0:=sm
 have XH: ∀{x g},adr x=some g→x≠n:=fun {x g} hx hn=>by rw [hn,Z0] at hx;cases hx
 have Za: ∀{c b},VM.get M1 c=some b→(∃d,oP σ c=some d)∨(oP σ c=none∧c=n0):=fun {c b} hc=>by
  rw [b₉] at uF
  have:=uF _ (VM.get_mem hc)
  cases hd:oP σ c with
  | some d=>exact .inl ⟨d,rfl⟩
  | none=>
   simp only [hd,Option.isSome_none,Bool.false_or,a₀] at this
   exact .inr ⟨rfl,a₁ this.1⟩
 have xH: ∀c,(c=n0∨∃d,oP σ c=some d)→(fun x=>if x=n then aN n0 else adr x) (kC n σ c)=aN c:=fun c hc=>by
  unfold kC
  cases hd:oP σ c with
  | none=>
   rcases hc with rfl | ⟨d,hc⟩
   ·exact xQ
   ·rw [hd] at hc;cases hc
  | some d=>
   rw [hold (SP hd)]
   have eS:c < n0:=hσ.lt (c:=c) (d:=d) hd
   rw [j4 c eS,eσ,hd];rfl
 have SR: ∀c g,aN c=some g→(fun x=>if x=n then aN n0 else adr x) (kC n σ c)=some g:=fun c g hc=>by
  refine(xH c ?_).trans hc
  rcases b₆ c n0 with h | h
  ·rw [j4 c h] at hc
   obtain⟨d,hd,_⟩:=jE hc
   exact .inr ⟨d,hd⟩
  ·rcases b₆ c n1 with h2 | h2
   ·exact .inl om
   ·rw [j5 c h2] at hc;cases hc
 have zT: ∀{c b},VM.get M1 c=some b→(fun x=>if x=n then aN n0 else adr x) (kC n σ c)=aN c:=fun {c b} hc=>xH c (by
  rcases Za hc with h | h
  ·exact .inr h
  ·exact .inl h.2)
 have kb:bJ w w' Pb P' adr (fun x=>if x=n then aN n0 else adr x):=by
  refine⟨j3.prot,j3.cell,fun c g hc=>(hold (XH hc)).trans hc,fun c g cur ty hc hw=>?_⟩
  by_cases hp: ∃c0,gw (dw 0 σ) adr c0=some g
  ·obtain⟨c0,pW⟩:=hp
   exact j3.size c0 g cur ty pW hw
  ·exact⟨cur,(j8.block g (Array.getElem?_eq_some_iff.1 hw).1 hp).trans hw,rfl⟩
 have k:=i2.trans kb
 have On: ∀c d b b',VM.get M1 c=some b→VM.get M1 d=some b'→kC n σ c=kC n σ d→c=d:=by
  intro c d b b' hc hd h
  unfold kC at h
  rcases Za hc with ⟨x,hx⟩ | ⟨hx,U2⟩ <;> rcases Za hd with ⟨y,hy⟩ | ⟨hy,Ze⟩ <;> rw [hx,hy] at h <;> simp only at h
  ·subst h;exact uW Gp hx hy
  ·exact absurd h (SP hx)
  ·exact absurd h.symm (SP hy)
  ·rw [U2,Ze]
 have oG: ∀{x b},VM.get (kU (kC n σ) M1 ++ jw (VM.bump M bs) σ) x=some b→(∃c b0,x=kC n σ c∧VM.get M1 c=some b0∧b={ b0 with l:=bif b0.row then b0.l else renVs (kC n σ) b0.l })∨(VM.get (VM.bump M bs) x=some b∧x≠n∧∀c,(c,x) ∉ σ):=by
  intro x b hx
  rw [get_app] at hx
  split at hx
  ·rename_i b' px
   injection hx with hx
   subst hx
   exact .inl (lp M1 x b' px On)
  ·obtain⟨h1,h2⟩:=nA σ _ x b hx
   obtain⟨b',h3⟩:=qQ h1
   exact .inr ⟨h1,fun hn=>(by rw [hn,SM] at h3;cases h3),h2⟩
 have Oz: ∀{x b g},VM.get (VM.bump M bs) x=some b→(∀c,(c,x) ∉ σ)→adr x=some g→¬ ∃c0,gw (dw 0 σ) adr c0=some g:=by
  rintro x b g hx hn hg ⟨c0,pW⟩
  obtain⟨d,h1,h2⟩:=jE pW
  obtain⟨b',px⟩:=iO xJ c0 d (gx h1)
  obtain⟨b'',UI⟩:=pM (bs:=bs) px
  have:=i1.inj x d b b'' g hx UI hg h2
  subst this
  exact hn c0 (gx h1)
 refine⟨⟨fun x b hx=>?_,fun x y bx Eh g hx hy pK pI=>?_,j1.prot⟩,fun t z ht=>?_,vS j2 SR,fun c hc=>hold hc,⟨fun c g hc=>?_,fun c hc=>(hold om).trans (jF.old c hc),jF.keep.trans k⟩,fun b o ho=>?_,fun c Ot hc=>?_,?_⟩
 ·rcases oG hx with ⟨c,b0,rfl,h1,rfl⟩ | ⟨h1,h2,h3⟩
  ·rcases j1.blk c b0 h1 with q | ⟨g,q1,q2⟩
   ·refine .inl ⟨q.1,?_,(zT h1).trans q.2.2.1,q.2.2.2⟩
    simp [q.1,q.2.1]
   ·refine .inr ⟨g,(zT h1).trans q1,?_⟩
    rcases q2.has' with ⟨cur,parts,c1,c2,c3,c4,c5⟩ | ⟨m1,m2,ks,vs,o,m3,m4,m5⟩
    rotate_left
    ·exact⟨.inr ⟨m1,m2,ks,vs,o,by simp [m1,m3,renVs,dJ],m4,m5⟩,q2.pe,by simp only [m1,cond_false,gy];exact q2.le⟩
    have hlen:(bif b0.row then b0.l else renVs (kC n σ) b0.l).length=b0.l.length:=by
     cases b0.row
     ·exact gy _
     ·rfl
    refine⟨.inl ⟨cur,parts,c1,by simp only [hlen];exact c2,c3,fun j x p hx hp=>?_,c5⟩,q2.pe,by simp only [hlen];exact q2.le⟩
    simp only at hx ⊢
    cases dP:b0.row with
    | true=>rw [dP] at hx c4;exact c4 j x p hx hp
    | false=>
     rw [dP] at hx c4
     simp only [cond_false,iN] at hx
     cases hj:b0.l[j]? with
     | none=>rw [hj] at hx;cases hx
     | some y=>
      rw [hj] at hx
      injection hx with hx
      subst hx
      exact qP (c4 j y p hj hp) SR
  ·rcases i1.blk x b h1 with q | ⟨g,q1,q2⟩
   ·exact .inl ⟨q.1,q.2.1,(hold h2).trans q.2.2.1,q.2.2.2⟩
   ·have Xo:=Oz h1 h3 q1
    refine .inr ⟨g,(hold h2).trans q1,q2.keep kb (j8.block g q2.lt Xo) fun o ho=>?_⟩
    rcases j7 g o ho with h | h | h
    ·exact h
    ·exact absurd q2.lt om
    ·exact absurd h Xo
 ·have Ew: ∀{c x b0 b1},VM.get M1 c=some b0→VM.get (VM.bump M bs) x=some b1→x≠n→(∀c,(c,x) ∉ σ)→aN c=some g→adr x=some g→False:=by
   intro c x b0 b1 _ h1 h2 h3 h4 h5
   rcases j6 c g h4 with h | h
   ·rcases i1.blk x b1 h1 with q | ⟨g',q1,q2⟩
    ·rw [h5] at q;cases q.2.2.1
    ·rw [h5] at q1;injection q1 with q1;subst q1;have:=q2.lt;omega
   ·exact Oz h1 h3 h5 h
  rcases oG hx with ⟨c,b0,rfl,h1,rfl⟩ | ⟨h1,h2,h3⟩ <;> rcases oG hy with ⟨d,d0,rfl,k1,rfl⟩ | ⟨k1,k2,k3⟩
  ·rw [j1.inj c d b0 d0 g h1 k1 ((zT h1).symm.trans pK) ((zT k1).symm.trans pI)]
  ·exact(Ew h1 k1 k2 k3 ((zT h1).symm.trans pK) ((hold k2).symm.trans pI)).elim
  ·exact(Ew k1 h1 h2 h3 ((zT k1).symm.trans pI) ((hold h2).symm.trans pK)).elim
  ·exact i1.inj x y bx Eh g h1 k1 ((hold h2).symm.trans pK) ((hold k2).symm.trans pI)
 ·obtain⟨u,h1,h2⟩:=hE t z ht
  exact⟨u,h1,h2.keep k⟩
 ·by_cases h1:c=n
  ·simp only [h1,if_true] at hc
   rcases j6 _ g hc with h | ⟨c0,h⟩
   ·exact .inl (b₃ xO.size h)
   ·obtain⟨d,_,hd⟩:=jE h;exact jF.in_ d g hd
  ·simp only [h1,if_false] at hc;exact jF.in_ c g hc
 ·rcases j7 b o ho with h | h | ⟨c0,h⟩
  ·rcases i3 b o h with h | ⟨c,h⟩
   ·exact sL b o h
   ·rcases jF.in_ c b h with h | h
    ·exact .inr (.inl h)
    ·exact .inr (.inr h)
  ·exact .inr (.inl (b₃ xO.size h))
  ·obtain⟨d,_,hd⟩:=jE h
   rcases jF.in_ d b hd with h | h
   ·exact .inr (.inl h)
   ·exact .inr (.inr h)
 ·cases hx:VM.get (kU (kC n σ) M1 ++ jw (VM.bump M bs) σ) c with
  | none=>rfl
  | some b=>
   exfalso
   rcases oG hx with ⟨d,b0,rfl,h1,_⟩ | ⟨h2,_,_⟩
   ·rcases Za h1 with ⟨y,hy⟩ | ⟨hy,_⟩
    ·unfold kC at hc
     rw [hy] at hc
     obtain⟨b',px⟩:=iO xJ d y (gx hy)
     rw [px] at hc;cases hc
    ·unfold kC at Ot
     rw [hy] at Ot
     exact Ot rfl
   ·obtain⟨b',h3⟩:=qQ h2
    rw [hc] at h3;cases h3
 ·refine⟨j8.os.trans xO.os,j8.tape.trans xO.tape,j8.output.trans xO.output,b₃ xO.size j8.size,fun b hb gf=>(j8.block b (a₇ hb xO.size) fun⟨c0,pW⟩=>?_).trans (xO.block b hb gf)⟩
  obtain⟨d,_,hd⟩:=jE pW
  rcases jF.in_ d b hd with h | h
  ·omega
  ·exact gf h
end
end
section
def af {A:Type} (x:bz A):Prop:= ∀K,x.runP K→∃a,x.runP (fun y=>y=a)∧K a∧∀K':A→Prop,K' a→x.runP K'
section
variable {A B α:Type}
theorem af.ret (a:A):af (bz.ret a):=fun _ h=>⟨a,rfl,h,fun _ h=>h⟩
theorem af.bad:af (bz.bad:bz A):=fun _ h=>h.elim
theorem af.ask {o:Option α} {k:α→bz A} (h: ∀a,af (k a)):af (bz.ask o k):=by
 rintro K ⟨a,h1,h2⟩;obtain⟨x,h3,h4,h5⟩:=h a K h2;exact⟨x,⟨a,h1,h3⟩,h4,fun K' hk=>⟨a,h1,h5 K' hk⟩⟩
theorem af.prf {p:Prop} {d:Decidable p} {k:bz A} (h:af k):af (bz.prf p d k):=by
 rintro K ⟨h1,h2⟩;obtain⟨x,h3,h4,h5⟩:=h K h2;exact⟨x,⟨h1,h3⟩,h4,fun K' hk=>⟨h1,h5 K' hk⟩⟩
theorem af.br {t:Bool} {x y:bz A} (hx:af x) (hy:af y):af (bz.br t x y):=by
 rintro K ⟨h1,h2⟩;cases t with
 | true=>
  obtain⟨a,h3,h4,h5⟩:=hx K (h1 rfl);exact⟨a,⟨fun _=>h3,fun h=>nomatch h⟩,h4,fun K' hk=>⟨fun _=>h5 K' hk,fun h=>nomatch h⟩⟩
 | false=>
  obtain⟨a,h3,h4,h5⟩:=hy K (h2 rfl);exact⟨a,⟨fun h=>(nomatch h),fun _=>h3⟩,h4,fun K' hk=>⟨fun h=>(nomatch h),fun _=>h5 K' hk⟩⟩
theorem af.bind {x:bz A} {f:A→bz B} (hx:af x) (hf: ∀a,af (f a)):af (x.bind f):=by
 intro K h;obtain⟨a,h1,h2,h3⟩:=hx _ h;obtain⟨b,h4,h5,h6⟩:=hf a K h2;exact⟨b,h3 _ h4,h5,fun K' hk=>h3 _ (h6 K' hk)⟩
theorem af.val {a:α} {k:α→bz A} (h: ∀a,af (k a)):af (val a k):=af.ask h
theorem af.cond {b:Bool} {x y:bz A} (hx:af x) (hy:af y):af (bif b then x else y):=by cases b <;> assumption
theorem af.rd {e:Nat→Option MV} {x:Operand} {k:MV→bz A} (h: ∀a,af (k a)):af (rd e x k):=by
 show af (match jL e x with | some m=>k m | none=> .bad)
 split
 ·exact h _
 ·exact af.bad
theorem af.rds {e:Nat→Option MV}: ∀{xs:List Operand} {k:List MV→bz A},(∀a,af (k a))→af (oM e xs k)
 | [],_,h=>h _
 | _ :: _,_,h=>af.rd fun _=>af.rds fun _=>h _
theorem af.rdo {e:Nat→Option MV} {x:Option Operand} {k:Option MV→bz A} (h: ∀a,af (k a)):af (OS e x k):=by
 cases x with
 | none=>exact h _
 | some x=>exact af.rd fun _=>h _
end
section
variable (P:Program) (T:bD) (E:Nat→Option MV) (M:FM) (cnt:Nat)
theorem jk (m:MV):af (pureA m):=af.ret _
theorem vT (op:BinOp) (k:IntKind) (a b:Int):af (Ky op k a b):=by
 cases op <;> first | exact af.ret _ | exact af.val fun _=>af.ret _ | exact af.prf (d:=inferInstance) (af.val fun _=>af.ret _)
theorem vU (op:BinOp) (a b:List UInt8):af (OU op a b):=by
 cases op <;> first | exact af.bad | exact af.ret _ | exact af.prf (d:=inferInstance) (af.val fun _=>af.ret _)
theorem vV (op:BinOp) (a b:Bool):af (Kz op a b):=by
 cases op <;> first | exact af.bad | exact af.ret _
theorem mn (b:Option Bool) (op:BinOp):af (yd b op):=by
 cases b with
 | none=>exact af.bad
 | some b=>cases op <;> first | exact af.bad | exact af.ret _
theorem IC (op:BinOp) (t:TypeId) (x y:MV):af (S9 P T op t x y):=by
 unfold S9;split
 ·exact af.cond (af.prf (af.ask fun _=>mn _ _)) af.bad
 ·exact af.bad
theorem ES (op:BinOp) (t:TypeId) (yo:Operand) (x y:MV):af (Ij P T op t yo x y):=by
 unfold Ij;split
 ·split
  ·exact af.cond (af.bind (vT _ _ _ _) jk) af.bad
  ·exact af.bad
 ·split
  ·exact af.bind (vU _ _ _) jk
  ·exact af.bad
 ·split
  ·split
   ·exact af.bind (vV _ _ _) jk
   ·exact af.bad
  ·exact af.bad
 ·split
  ·exact mn _ _
  ·exact af.bad
 ·split
  ·exact mn _ _
  ·exact af.bad
 ·split
  ·exact mn _ _
  ·exact af.bad
 ·exact IC P T op t _ _
mutual
theorem yQ: ∀(p:MV),af (dO M p)
 | .ms c es off n=>by
  simp only [dO]
  split
  ·split
   ·exact af.prf (af.val fun _=>af.ret _)
   ·exact af.bad
  ·exact af.bad
 | .st l=>by simp only [dO];exact af.bind (mo l) fun _=>af.ret _
 | .fn f l=>by simp only [dO];exact af.bind (mo l) fun _=>af.ret _
 | .ifc t v=>by simp only [dO];exact af.bind (yQ v) fun _=>af.ret _
 | .ptr c es k fo path=>by
  simp only [dO]
  split
  ·exact af.cond (af.ask fun _=>af.cond (af.ret _) af.bad) af.bad
  ·exact af.bad
 | .tup _=>af.bad
 | .undef=>af.bad
 | .mp _=>af.bad
 | .mpv .. =>af.bad
 | .int .. =>af.ret _
 | .bool .. =>af.ret _
 | .str .. =>af.ret _
 | .nilp=>af.ret _
 | .gp .. =>af.ret _
 | .ep .. =>af.ret _
 | .sl .. =>af.ret _
 | .nils=>af.ret _
 | .nilf=>af.ret _
 | .nili=>af.ret _
 | .arr .. =>af.ret _
theorem mo: ∀(l:List MV),af (gN M l)
 | [] =>af.ret _
 | m :: l=>by simp only [gN];exact af.bind (yQ m) fun _=>af.bind (mo l) fun _=>af.ret _
end
theorem Cc (t:TypeId) (p:MV):af (iv T M t p):=by
 unfold iv;split
 ·exact af.bad
 ·split
  ·split
   ·exact af.cond (af.ask fun _=>af.ask fun _=>af.cond (af.ret _) af.bad) af.bad
   ·exact af.bad
  ·exact af.ask fun _=>af.cond (af.ret _) af.bad
  ·exact af.bad
theorem Ap (t:TypeId) (p v:MV):af (gK T M t p v):=by
 unfold gK;split
 ·exact af.bad
 ·split
  ·split
   ·exact af.cond (af.prf (af.ask fun _=>af.ask fun _=>af.val fun _=>af.ret _)) af.bad
   ·exact af.bad
  ·exact af.bad
theorem tb (t:TypeId) (p:MV) (f:Nat):af (gX T t p f):=by
 unfold gX
 repeat' split
 all_goals first | exact af.bad | exact af.ret _
theorem tc (t:TypeId) (p j:MV):af (gY T t p j):=by
 unfold gY
 repeat' split
 all_goals first | exact af.bad | exact af.ask fun _=>af.cond (af.ret _) af.bad | exact af.cond (af.ask fun _=>af.ret _) af.bad | exact af.ask fun _=>af.ret _
theorem Aq (t:TypeId) (p j:MV):af (pZ T t p j):=by
 unfold pZ
 repeat' split
 all_goals first | exact af.bad | exact af.ask fun _=>af.ret _ | exact af.cond (af.ask fun _=>af.cond (af.ret _) af.bad) af.bad
theorem Ar (t:TypeId) (p:MV) (f:Nat):af (p8 T t p f):=by
 unfold p8
 repeat' split
 all_goals first | exact af.bad | exact af.cond (af.ret _) af.bad
theorem As (t:TypeId) (x:MV) (lo hi:Option MV):af (p9 T t x lo hi):=by
 unfold p9
 repeat' split
 all_goals first | exact af.bad | exact af.ask fun _=>af.val fun _=>af.ret _ | exact af.ask fun _=>af.prf (af.val fun _=>af.val fun _=>af.ret _) | exact af.cond (af.ask fun _=>af.val fun _=>af.ret _) af.bad | exact af.ask fun _=>af.ret _
theorem yj (t:TypeId) (x:MV) (lo hi:Option MV):af (fW T M t x lo hi):=by
 unfold fW;split
 ·split
  ·split
   ·exact af.cond (af.ask fun _=>af.val fun _=>af.val fun _=>af.ret _) af.bad
   ·exact af.bad
  ·exact af.bad
 ·exact As T _ _ _ _
theorem Au (t:TypeId) (ps:List (Nat×MV)):af (qa T t ps):=by
 unfold qa;split
 ·refine af.cond ?_ af.bad;split
  ·exact af.ret _
  ·exact af.bad
 ·refine af.cond ?_ af.bad;split
  ·exact af.ret _
  ·exact af.bad
 ·exact af.bad
theorem qR (t:TypeId) (n:Nat) (ps:List (Nat×MV)):af (eB T cnt t n ps):=by
 unfold eB;split
 ·split
  ·split
   ·exact af.ret _
   ·exact af.bad
  ·split
   ·refine af.cond ?_ af.bad;split
    ·exact af.ret _
    ·exact af.bad
   ·exact af.bad
 ·exact af.bad
theorem uI (t:TypeId) (c es off k:Nat):af (fw T M cnt t c es off k):=by
 unfold fw
 repeat' split
 all_goals first | exact af.bad | exact af.cond (af.prf (af.val fun _=>af.ret _)) af.bad
theorem ID (op:UnOp) (x:MV):af (Ta op x):=by
 unfold Ta
 repeat' split
 all_goals first | exact af.bad | exact af.ret _ | exact af.val fun _=>af.ret _
theorem Cd (s d:TypeId) (x:MV):af (nq T M s d x):=by
 unfold nq
 repeat' split
 all_goals first | exact af.bad | exact af.ret _ | exact af.val fun _=>af.ret _ | exact af.ask fun _=>af.ret _ | exact af.cond (af.prf (af.ask fun _=>af.ret _)) af.bad | exact af.prf (af.val fun _=>af.val fun _=>af.ret _)
theorem td (t:TypeId) (x y:MV):af (gZ P T cnt t x y):=by
 unfold gZ
 repeat' split
 all_goals first | exact af.bad | exact af.cond (af.prf (af.ask fun _=>af.ask fun _=>af.prf (af.ret _))) af.bad
theorem ET (es:Nat) (y:MV) (k:Nat→List MV→bz (MV×Dl)) (h: ∀n l,af (k n l)):af (qF M es y k):=by
 unfold qF;split
 ·exact af.prf (h _ _)
 ·exact h _ _
 ·split
  ·exact af.cond (af.prf (af.val fun _=>h _ _)) af.bad
  ·exact af.bad
 ·exact af.bad
theorem yk (er:List TypeId) (x y:MV):af (gT P T M cnt er x y):=by
 unfold gT;split
 ·refine af.cond ?_ af.bad;split
  ·split
   ·refine af.cond (af.ask fun _=>ET M _ _ _ fun n l=>?_) af.bad;split
    ·exact af.prf (af.ret _)
    ·split
     ·exact af.cond (af.prf (af.val fun _=>af.val fun _=>af.ret _)) af.bad
     ·exact af.bad
    ·exact af.bad
   ·exact af.bad
  ·exact af.bad
 ·exact af.bad
theorem vX (b:Builtin) (er:Array TypeId) (vs:List MV):af (fA P T M cnt b er vs):=by
 unfold fA;split
 ·split
  ·unfold KA
   repeat' split
   all_goals first | exact af.bad | exact af.ret _ | exact af.val fun _=>af.ret _
  ·exact af.bad
 ·split
  ·exact yk P T M cnt _ _ _
  ·exact af.bad
 ·split
  ·exact af.val fun _=>af.ret _
  ·exact af.bad
 ·split
  ·exact af.val fun _=>af.ret _
  ·exact af.bad
 ·exact af.bad
theorem yl (t:TypeId) (m k x:MV):af (gU P M t m k x):=by
 unfold gU;split
 ·split
  ·split
   ·refine af.cond (af.prf (af.ask fun _=>af.ask fun r=>?_)) af.bad;cases r <;> exact af.val fun _=>af.ret _
   ·exact af.bad
  ·exact af.bad
 ·exact af.bad
theorem ym (t:TypeId) (m k:MV) (ok:Bool):af (iw P T M t m k ok):=by
 unfold iw;split
 ·split
  ·split
   ·refine af.prf (af.ask fun _=>af.ask fun r=>?_);cases r
    ·exact af.ask fun _=>af.ret _
    ·exact af.ask fun _=>af.cond (af.ret _) af.bad
   ·exact af.bad
  ·exact af.bad
 ·exact af.bad
theorem Av (t:TypeId) (v:MV):af (qb T cnt t v):=by
 unfold qb;split
 ·exact af.ret _
 ·exact af.bad
theorem Ce (v:MV) (b:Bool):af (mT M v b):=by
 unfold mT;split
 ·split
  ·split
   ·refine af.ask fun _=>af.val fun r=>?_
    rcases r with _ | ⟨_,_⟩ <;> exact af.ret _
   ·exact af.bad
  ·exact af.bad
 ·exact af.bad
theorem yn (t:TypeId) (ok:Bool) (v:MV):af (mf P T t ok v):=by
 unfold mf;split
 ·exact af.bad
 ·exact af.bad
 ·split
  ·exact af.cond (af.ret _) af.bad
  ·exact af.cond (af.ask fun _=>af.ret _) af.bad
 ·exact af.bad
theorem IE (o:Oper):af (jv P T E M cnt o):=by
 obtain⟨dst,op,ty,pos,after,guard⟩:=o;cases op with
 | move x=>exact af.rd jk
 | assign x=>exact af.rd jk
 | pick c a b=>
  refine af.rd fun c=>af.rd fun a=>af.rd fun b=>?_
  unfold KC;split
  ·exact af.br (af.ret _) (af.ret _)
  ·exact af.bad
 | alloc t=>
  show af (lZ T cnt t)
  unfold lZ;split
  ·exact af.cond (af.ret _) af.bad
  ·exact af.bad
 | box t x=>
  refine af.rd fun v=>?_
  unfold BR;split
  ·exact af.cond (af.ret _) af.bad
  ·exact af.bad
 | build t parts=>exact af.rds fun _=>Au T _ _
 | buildSlice t n parts=>
  refine af.rds fun _=>?_
  split
  ·exact uI T M cnt _ _ _ _ _
  ·exact qR T cnt _ _ _
 | load t x=>exact af.rd fun _=>Cc T M _ _
 | store t x y=>exact af.rd fun _=>af.rd fun _=>Ap T M _ _ _
 | nilCheck x=>
  refine af.rd fun v=>?_
  unfold lf;split <;> first | exact af.ret _ | exact af.bad
 | binOp op t x y Ob=>exact af.rd fun _=>af.rd fun _=>ES P T _ _ _ _ _
 | unOp op t x=>exact af.rd fun _=>ID _ _
 | convert s d x=>exact af.rd fun _=>Cd T M _ _ _
 | makeInterface t x=>
  refine af.rd fun v=>?_
  unfold vB;split <;> first | exact af.bad | exact af.cond (af.ret _) af.bad
 | makeFunc fn first captured=>
  refine af.rds fun v=>?_
  unfold qG;split <;> first | exact af.bad | exact af.cond (af.ret _) af.bad
 | makeSlice t l c=>exact af.rd fun _=>af.rd fun _=>td P T cnt _ _ _
 | slice t x lo hi mx=>
  cases mx with
  | none=>exact af.rd fun _=>af.rdo fun _=>af.rdo fun _=>yj T M _ _ _ _
  | some _=>exact af.bad
 | fieldAddr t x f=>exact af.rd fun _=>tb T _ _ _
 | field t x f=>exact af.rd fun _=>Ar T _ _ _
 | indexAddr t x ix=>exact af.rd fun _=>af.rd fun _=>tc T _ _ _
 | index t x ix=>exact af.rd fun _=>af.rd fun _=>Aq T _ _ _
 | extract x i=>
  refine af.rd fun v=>?_
  unfold nr
  repeat' split
  all_goals first | exact af.bad | exact af.ret _
 | makeMap t r=>
  cases r with
  | none=>exact af.ret _
  | some _=>exact af.bad
 | mapUpdate t p k x=>exact af.rd fun _=>af.rd fun _=>af.rd fun _=>yl P M _ _ _ _
 | lookup t p k ok=>exact af.rd fun _=>af.rd fun _=>ym P T M _ _ _ _
 | typeAssert x xT t ok=>exact af.rd fun _=>yn P T _ _ _
 | range t x=>exact af.rd fun _=>Av T cnt _ _
 | next x b=>exact af.rd fun _=>Ce M _ _
 | call c=>
  obtain⟨callee,args,er⟩:=c;cases callee with
  | builtin b=>exact af.rds fun _=>vX P T M cnt _ _ _
  | _=>exact af.bad
 | _=>exact af.bad
theorem Cf (E:VE) (M:VM) (f:Operand) (args:List Operand):af (ud E M f args):=by
 refine af.rd fun fv=>af.rds fun vs=>?_
 split
 ·exact af.bind (mo _ _) fun _=>af.ret _
 ·exact af.bad
end
end
section
def ar (D:Dl→Prop) (x:bz (MV×Dl)):Prop:= ∀K,x.runP K→∃r δ,D δ∧K (r,δ)
section
variable {α:Type} {D:Dl→Prop}
theorem ar.ret {r:MV} {δ:Dl} (h:D δ):ar D (bz.ret (r,δ)):=fun _ hk=>⟨r,δ,h,hk⟩
theorem ar.bad:ar D bz.bad:=fun _ h=>h.elim
theorem ar.ask {o:Option α} {k:α→bz (MV×Dl)} (h: ∀a,ar D (k a)):ar D (bz.ask o k):=by
 rintro K ⟨a,_,h2⟩;exact h a K h2
theorem ar.prf {p:Prop} {d:Decidable p} {k:bz (MV×Dl)} (h:ar D k):ar D (bz.prf p d k):=by
 rintro K ⟨_,h2⟩;exact h K h2
theorem ar.br {t:Bool} {x y:bz (MV×Dl)} (hx:ar D x) (hy:ar D y):ar D (bz.br t x y):=by
 rintro K ⟨h1,h2⟩;cases t with
 | true=>exact hx K (h1 rfl)
 | false=>exact hy K (h2 rfl)
theorem ar.bind {x:bz MV} {f:MV→bz (MV×Dl)} (hs:af x) (hf: ∀a,ar D (f a)):ar D (x.bind f):=by
 intro K h;obtain⟨a,_,h2,_⟩:=hs _ h;exact hf a K h2
theorem ar.val {a:α} {k:α→bz (MV×Dl)} (h: ∀a,ar D (k a)):ar D (val a k):=ar.ask h
theorem ar.cond {b:Bool} {x y:bz (MV×Dl)} (hx:ar D x) (hy:ar D y):ar D (bif b then x else y):=by cases b <;> assumption
theorem ar.rd {e:Nat→Option MV} {x:Operand} {k:MV→bz (MV×Dl)} (h: ∀a,ar D (k a)):ar D (rd e x k):=by
 show ar D (match jL e x with | some m=>k m | none=> .bad)
 split
 ·exact h _
 ·exact ar.bad
theorem ar.rds {e:Nat→Option MV}: ∀{xs:List Operand} {k:List MV→bz (MV×Dl)},(∀a,ar D (k a))→ar D (oM e xs k)
 | [],_,h=>h _
 | _ :: _,_,h=>ar.rd fun _=>ar.rds fun _=>h _
theorem ar.rdo {e:Nat→Option MV} {x:Option Operand} {k:Option MV→bz (MV×Dl)} (h: ∀a,ar D (k a)):ar D (OS e x k):=by
 cases x with
 | none=>exact h _
 | some x=>exact ar.rd fun _=>h _
end
abbrev DN:Dl→Prop:=fun δ=>δ= .none
abbrev DA:Dl→Prop:=fun δ=> ∃b,δ= .new b
abbrev DW (m:FM):Dl→Prop:=fun δ=>(∃b,δ= .new b)∨(∃c l,δ= .upd c l∧m c≠none)∨(∃c b,δ= .mv c b∧m c≠none)
section
variable (P:Program) (T:bD) (E:Nat→Option MV) (M:FM) (cnt:Nat)
theorem lq (m:MV):ar DN (pureA m):=ar.ret rfl
theorem qS (b:Option Bool) (op:BinOp):ar DN (yd b op):=by
 cases b with
 | none=>exact ar.bad
 | some b=>cases op <;> first | exact ar.bad | exact ar.ret rfl
theorem O4 (op:BinOp) (t:TypeId) (x y:MV):ar DN (S9 P T op t x y):=by
 unfold S9;split
 ·exact ar.cond (ar.prf (ar.ask fun _=>qS _ _)) ar.bad
 ·exact ar.bad
theorem KP (op:BinOp) (t:TypeId) (yo:Operand) (x y:MV):ar DN (Ij P T op t yo x y):=by
 unfold Ij;split
 ·split
  ·exact ar.cond (ar.bind (vT _ _ _ _) lq) ar.bad
  ·exact ar.bad
 ·split
  ·exact ar.bind (vU _ _ _) lq
  ·exact ar.bad
 ·split
  ·split
   ·exact ar.bind (vV _ _ _) lq
   ·exact ar.bad
  ·exact ar.bad
 ·split
  ·exact qS _ _
  ·exact ar.bad
 ·split
  ·exact qS _ _
  ·exact ar.bad
 ·split
  ·exact qS _ _
  ·exact ar.bad
 ·exact O4 P T op t _ _
theorem yR (t:TypeId) (p:MV):ar DN (iv T M t p):=by
 unfold iv;split
 ·exact ar.bad
 ·split
  ·split
   ·exact ar.cond (ar.ask fun _=>ar.ask fun _=>ar.cond (ar.ret rfl) ar.bad) ar.bad
   ·exact ar.bad
  ·exact ar.ask fun _=>ar.cond (ar.ret rfl) ar.bad
  ·exact ar.bad
theorem vY (t:TypeId) (p:MV) (f:Nat):ar DN (gX T t p f):=by
 unfold gX
 repeat' split
 all_goals first | exact ar.bad | exact ar.ret rfl
theorem vZ (t:TypeId) (p j:MV):ar DN (gY T t p j):=by
 unfold gY
 repeat' split
 all_goals first | exact ar.bad | exact ar.ask fun _=>ar.cond (ar.ret rfl) ar.bad | exact ar.cond (ar.ask fun _=>ar.ret rfl) ar.bad | exact ar.ask fun _=>ar.ret rfl
theorem EU (t:TypeId) (p j:MV):ar DN (pZ T t p j):=by
 unfold pZ
 repeat' split
 all_goals first | exact ar.bad | exact ar.ask fun _=>ar.ret rfl | exact ar.cond (ar.ask fun _=>ar.cond (ar.ret rfl) ar.bad) ar.bad
theorem EV (t:TypeId) (p:MV) (f:Nat):ar DN (p8 T t p f):=by
 unfold p8
 repeat' split
 all_goals first | exact ar.bad | exact ar.cond (ar.ret rfl) ar.bad
theorem v7 (t:TypeId) (x:MV) (lo hi:Option MV):ar DN (p9 T t x lo hi):=by
 unfold p9
 repeat' split
 all_goals first | exact ar.bad | exact ar.ask fun _=>ar.val fun _=>ar.ret rfl | exact ar.ask fun _=>ar.prf (ar.val fun _=>ar.val fun _=>ar.ret rfl) | exact ar.cond (ar.ask fun _=>ar.val fun _=>ar.ret rfl) ar.bad | exact ar.ask fun _=>ar.ret rfl
abbrev DR (m:FM):Dl→Prop:=fun δ=>δ= .none∨∃l,δ= .bump l∧∀c∈l,m c.1≠none
theorem ar.weak {D D':Dl→Prop} {x:bz (MV×Dl)} (h:ar D x) (hd: ∀δ,D δ→D' δ):ar D' x:=fun K hk=>by
 obtain⟨r,δ,h1,h2⟩:=h K hk;exact⟨r,δ,hd δ h1,h2⟩
theorem Cg (t:TypeId) (x:MV) (lo hi:Option MV):ar (DR M) (fW T M t x lo hi):=by
 unfold fW;split
 ·split
  ·rename_i b hb;split
   ·exact ar.cond (ar.ask fun _=>ar.val fun _=>ar.val fun _=>ar.ret (.inr ⟨_,rfl,fun c hc=>by simp at hc;subst hc;rw [hb];simp⟩)) ar.bad
   ·exact ar.bad
  ·exact ar.bad
 ·exact(v7 T _ _ _ _).weak fun _ h=> .inl h
theorem EW (t:TypeId) (ps:List (Nat×MV)):ar DN (qa T t ps):=by
 unfold qa;split
 ·refine ar.cond ?_ ar.bad;split
  ·exact ar.ret rfl
  ·exact ar.bad
 ·refine ar.cond ?_ ar.bad;split
  ·exact ar.ret rfl
  ·exact ar.bad
 ·exact ar.bad
theorem O5 (op:UnOp) (x:MV):ar DN (Ta op x):=by
 unfold Ta
 repeat' split
 all_goals first | exact ar.bad | exact ar.ret rfl | exact ar.val fun _=>ar.ret rfl
theorem yS (s d:TypeId) (x:MV):ar DN (nq T M s d x):=by
 unfold nq
 repeat' split
 all_goals first | exact ar.bad | exact ar.ret rfl | exact ar.val fun _=>ar.ret rfl | exact ar.ask fun _=>ar.ret rfl | exact ar.cond (ar.prf (ar.ask fun _=>ar.ret rfl)) ar.bad | exact ar.prf (ar.val fun _=>ar.val fun _=>ar.ret rfl)
theorem gV (t:TypeId) (n:Nat) (ps:List (Nat×MV)):ar DA (eB T cnt t n ps):=by
 unfold eB;split
 ·split
  ·split
   ·exact ar.ret ⟨_,rfl⟩
   ·exact ar.bad
  ·split
   ·refine ar.cond ?_ ar.bad;split
    ·exact ar.ret ⟨_,rfl⟩
    ·exact ar.bad
   ·exact ar.bad
 ·exact ar.bad
theorem yp (t:TypeId) (c es off k:Nat):ar (DW M) (fw T M cnt t c es off k):=by
 unfold fw;split
 ·split
  ·split
   ·rename_i b hb;exact ar.cond (ar.prf (ar.val fun _=>ar.ret (.inr (.inr ⟨_,_,rfl,by rw [hb];simp⟩)))) ar.bad
   ·exact ar.bad
  ·exact ar.bad
 ·exact ar.bad
theorem wa (t:TypeId) (x y:MV):ar DA (gZ P T cnt t x y):=by
 unfold gZ
 repeat' split
 all_goals first | exact ar.bad | exact ar.cond (ar.prf (ar.ask fun _=>ar.ask fun _=>ar.prf (ar.ret ⟨_,rfl⟩))) ar.bad
theorem EX (t:TypeId) (p v:MV):ar (DW M) (gK T M t p v):=by
 unfold gK;split
 ·exact ar.bad
 ·split
  ·split
   ·rename_i b hb;exact ar.cond (ar.prf (ar.ask fun _=>ar.ask fun _=>ar.val fun _=>ar.ret (.inr (.inl ⟨_,_,rfl,by rw [hb];simp⟩)))) ar.bad
   ·exact ar.bad
  ·exact ar.bad
theorem Ch (t:TypeId) (m k x:MV):ar (DW M) (gU P M t m k x):=by
 unfold gU;split
 ·split
  ·rename_i b hb;split
   ·refine ar.cond (ar.prf (ar.ask fun _=>ar.ask fun r=>?_)) ar.bad;cases r <;> exact ar.val fun _=>ar.ret (.inr (.inl ⟨_,_,rfl,by rw [hb];simp⟩))
   ·exact ar.bad
  ·exact ar.bad
 ·exact ar.bad
theorem ui (t:TypeId) (m k:MV) (ok:Bool):ar DN (iw P T M t m k ok):=by
 unfold iw;split
 ·split
  ·split
   ·refine ar.prf (ar.ask fun _=>ar.ask fun r=>?_);cases r
    ·exact ar.ask fun _=>ar.ret rfl
    ·exact ar.ask fun _=>ar.cond (ar.ret rfl) ar.bad
   ·exact ar.bad
  ·exact ar.bad
 ·exact ar.bad
theorem EY (t:TypeId) (v:MV):ar DA (qb T cnt t v):=by
 unfold qb;split
 ·exact ar.ret ⟨_,rfl⟩
 ·exact ar.bad
theorem IF (v:MV) (b:Bool):ar (DW M) (mT M v b):=by
 unfold mT;split
 ·split
  ·rename_i bb hb;split
   ·refine ar.ask fun _=>ar.val fun r=>?_
    rcases r with _ | ⟨_,_⟩
    ·exact ar.ret (.inr (.inl ⟨_,_,rfl,by rw [hb];simp⟩))
    ·exact ar.ret (.inr (.inl ⟨_,_,rfl,by rw [hb];simp⟩))
   ·exact ar.bad
  ·exact ar.bad
 ·exact ar.bad
theorem Ci (t:TypeId) (ok:Bool) (v:MV):ar DN (mf P T t ok v):=by
 unfold mf;split
 ·exact ar.bad
 ·exact ar.bad
 ·split
  ·exact ar.cond (ar.ret rfl) ar.bad
  ·exact ar.cond (ar.ask fun _=>ar.ret rfl) ar.bad
 ·exact ar.bad
theorem KQ (D:Dl→Prop) (es:Nat) (y:MV) (k:Nat→List MV→bz (MV×Dl)) (h: ∀n l,ar D (k n l)):ar D (qF M es y k):=by
 unfold qF;split
 ·exact ar.prf (h _ _)
 ·exact h _ _
 ·split
  ·exact ar.cond (ar.prf (ar.val fun _=>h _ _)) ar.bad
  ·exact ar.bad
 ·exact ar.bad
theorem Cj (er:List TypeId) (x y:MV):ar (DW M) (gT P T M cnt er x y):=by
 unfold gT;split
 ·refine ar.cond ?_ ar.bad;split
  ·split
   ·refine ar.cond (ar.ask fun _=>KQ M _ _ _ _ fun n l=>?_) ar.bad;split
    ·exact ar.prf (ar.ret (.inl ⟨_,rfl⟩))
    ·split
     ·rename_i b hb;exact ar.cond (ar.prf (ar.val fun _=>ar.val fun _=>ar.ret (.inr (.inr ⟨_,_,rfl,by rw [hb];simp⟩)))) ar.bad
     ·exact ar.bad
    ·exact ar.bad
   ·exact ar.bad
  ·exact ar.bad
 ·exact ar.bad
def DK (m:FM):Nat→Dl→Prop
 | 0=>DN
 | 1=>DA
 | 2=>DR m
 | _=>DW m
theorem GQ (o:Oper):ar (DK M (sN o)) (jv P T E M cnt o):=by
  obtain⟨dst,op,ty,pos,after,guard⟩:=o;cases op with
  | move x=>exact ar.rd lq
  | assign x=>exact ar.rd lq
  | pick c a b=>
    refine ar.rd fun c=>ar.rd fun a=>ar.rd fun b=>?_
    unfold KC;split
    · exact ar.br (ar.ret rfl) (ar.ret rfl)
    · exact ar.bad
  | alloc t=>
    show ar DA (lZ T cnt t)
    unfold lZ;split
    · exact ar.cond (ar.ret ⟨_,rfl⟩) ar.bad
    · exact ar.bad
  | box t x=>
    refine ar.rd fun v=>?_
    unfold BR;split
    · exact ar.cond (ar.ret ⟨_,rfl⟩) ar.bad
    · exact ar.bad
  | build t parts=>exact ar.rds fun _=>EW T _ _
  | buildSlice t n parts=>
    match n with
    | 0=>exact ar.rds fun _=>gV T cnt _ _ _
    | 1=>
      refine ar.rds fun _=>?_
      split
      · exact yp T M cnt _ _ _ _ _
      · exact(gV T cnt _ _ _).weak fun δ hδ=> .inl hδ
    | _ + 2=>exact ar.rds fun _=>gV T cnt _ _ _
  | load t x=>exact ar.rd fun _=>(yR T M _ _).weak fun _ h=> .inl h
  | store t x y=>exact ar.rd fun _=>ar.rd fun _=>EX T M _ _ _
  | nilCheck x=>
    refine ar.rd fun v=>?_
    unfold lf;split <;> first | exact ar.ret rfl | exact ar.bad
  | binOp op t x y Ob=>exact ar.rd fun _=>ar.rd fun _=>KP P T _ _ _ _ _
  | unOp op t x=>exact ar.rd fun _=>O5 _ _
  | convert s d x=>exact ar.rd fun _=>(yS T M _ _ _).weak fun _ h=> .inl h
  | makeInterface t x=>
    refine ar.rd fun v=>?_
    unfold vB;split <;> first | exact ar.bad | exact ar.cond (ar.ret rfl) ar.bad
  | makeFunc fn first captured=>
    refine ar.rds fun v=>?_
    unfold qG;split <;> first | exact ar.bad | exact ar.cond (ar.ret rfl) ar.bad
  | makeSlice t l c=>exact ar.rd fun _=>ar.rd fun _=>wa P T cnt _ _ _
  | slice t x lo hi mx=>
    cases mx with
    | none=>exact ar.rd fun _=>ar.rdo fun _=>ar.rdo fun _=>Cg T M _ _ _ _
    | some _=>exact ar.bad
  | fieldAddr t x f=>exact ar.rd fun _=>vY T _ _ _
  | field t x f=>exact ar.rd fun _=>EV T _ _ _
  | indexAddr t x ix=>exact ar.rd fun _=>ar.rd fun _=>vZ T _ _ _
  | index t x ix=>exact ar.rd fun _=>ar.rd fun _=>EU T _ _ _
  | extract x i=>
    refine ar.rd fun v=>?_
    unfold nr
    repeat' split
    all_goals first | exact ar.bad | exact ar.ret rfl
  | makeMap t r=>
    cases r with
    | none=>exact ar.ret ⟨_,rfl⟩
    | some _=>exact ar.bad
  | mapUpdate t p k x=>exact ar.rd fun _=>ar.rd fun _=>ar.rd fun _=>Ch P M _ _ _ _
  | lookup t p k ok=>exact ar.rd fun _=>ar.rd fun _=>(ui P T M _ _ _ _).weak fun _ h=> .inl h
  | typeAssert x xT t ok=>exact ar.rd fun _=>Ci P T _ _ _
  | range t x=>exact ar.rd fun _=>EY T cnt _ _
  | next x b=>exact ar.rd fun _=>IF M _ _
  | call c=>
    obtain⟨callee,args,er⟩:=c;cases callee with
    | builtin b=>
      refine ar.rds fun vs=>?_
      cases b <;> first
        | exact ar.bad
        | (show ar DN _
           simp only [fA]
           split
           · unfold KA
             repeat' split
             all_goals first | exact ar.bad | exact ar.ret rfl | exact ar.val fun _=>ar.ret rfl
           · exact ar.bad)
        | (show ar (DW M) _
           simp only [fA]
           split
           · exact Cj P T M cnt _ _ _
           · exact ar.bad)
        | (show ar DN _
           simp only [fA]
           split
           · exact ar.val fun _=>ar.ret rfl
           · exact ar.bad)
    | _=>exact ar.bad
  | _=>exact ar.bad
end
end
section
section
variable {P:Program} {T:bD} {e e':Nat→Option MV} {m m':FM} {cnt:Nat} {A:Type}
def Ag (e e':Nat→Option MV) (l:List Operand):Prop:= ∀x∈l,jL e x=jL e' x
theorem dQ {x:Operand} {k:MV→bz A} (h:jL e x=jL e' x):rd e x k=rd e' x k:=by unfold rd;rw [h]
theorem qe: ∀{l:List Operand} {k:List MV→bz A},Ag e e' l→oM e l k=oM e' l k
 | [],_,_=>rfl
 | x :: l,k,h=>by
  show rd e x _=rd e' x _
  rw [dQ (h x sm)]
  have:(fun m=>oM e l fun r=>k (m :: r))=fun m=>oM e' l fun r=>k (m :: r):=funext fun m=>qe fun y hy=>h y (by simp [hy])
  rw [this]
theorem KR {x:Option Operand} {k:Option MV→bz A} (h:Ag e e' x.toList):OS e x k=OS e' x k:=by
 cases x with
 | none=>rfl
 | some x=>exact dQ (h x sm)
theorem KS {x:Operand} (h: ∀t,x= .tmp t→e t=e' t):jL e x=jL e' x:=by
 cases x with
 | tmp t=>exact h t rfl
 | _=>rfl
theorem O6 {o:Oper} (h:Ag e e' o.op.operands.toList):jv P T e m cnt o=jv P T e' m cnt o:=by
 obtain⟨dst,op,ty,pos,after,guard⟩:=o;replace h:Ag e e' op.operands.toList:=h;cases op with
 | move x=>exact dQ (h x (by simp [Op.operands]))
 | assign x=>exact dQ (h x (by simp [Op.operands]))
 | pick c a b=>
  show rd e c _=rd e' c _
  rw [dQ (h c (by simp [Op.operands]))];congr 1;funext c;rw [dQ (h a (by simp [Op.operands]))];congr 1;funext a;rw [dQ (h b (by simp [Op.operands]))]
 | alloc t=>rfl
 | box t x=>exact dQ (h x (by simp [Op.operands]))
 | build t parts=>exact qe fun x hx=>h x (by simpa [Op.operands] using hx)
 | buildSlice t n parts=>exact qe fun x hx=>h x (by simpa [Op.operands] using hx)
 | load t x=>exact dQ (h x (by simp [Op.operands]))
 | store t x y=>
  show rd e x _=rd e' x _
  rw [dQ (h x (by simp [Op.operands]))];congr 1;funext c;rw [dQ (h y (by simp [Op.operands]))]
 | nilCheck x=>exact dQ (h x (by simp [Op.operands]))
 | binOp op t x y Ob=>
  show rd e x _=rd e' x _
  rw [dQ (h x (by simp [Op.operands]))];congr 1;funext c;rw [dQ (h y (by simp [Op.operands]))]
 | unOp op t x=>exact dQ (h x (by simp [Op.operands]))
 | convert s d x=>exact dQ (h x (by simp [Op.operands]))
 | makeInterface t x=>exact dQ (h x (by simp [Op.operands]))
 | makeFunc fn first captured=>exact qe fun x hx=>h x (by simp [Op.operands];exact .inr (by simpa using hx))
 | makeSlice t x y=>
  show rd e x _=rd e' x _
  rw [dQ (h x (by simp [Op.operands]))];congr 1;funext c;rw [dQ (h y (by simp [Op.operands]))]
 | slice t x lo hi mx=>
  cases mx with
  | none=>
   show rd e x _=rd e' x _
   rw [dQ (h x (by simp [Op.operands]))];congr 1;funext c;rw [KR fun y hy=>h y (by simp [Op.operands];simp at hy;simp [hy])];congr 1;funext c;rw [KR fun y hy=>h y (by simp [Op.operands];simp at hy;simp [hy])]
  | some _=>rfl
 | fieldAddr t x f=>exact dQ (h x (by simp [Op.operands]))
 | field t x f=>exact dQ (h x (by simp [Op.operands]))
 | indexAddr t x y=>
  show rd e x _=rd e' x _
  rw [dQ (h x (by simp [Op.operands]))];congr 1;funext c;rw [dQ (h y (by simp [Op.operands]))]
 | index t x y=>
  show rd e x _=rd e' x _
  rw [dQ (h x (by simp [Op.operands]))];congr 1;funext c;rw [dQ (h y (by simp [Op.operands]))]
 | extract x i=>exact dQ (h x (by simp [Op.operands]))
 | makeMap t r=>rfl
 | mapUpdate t p k x=>
  show rd e p _=rd e' p _
  rw [dQ (h p (by simp [Op.operands]))];congr 1;funext c;rw [dQ (h k (by simp [Op.operands]))];congr 1;funext c;rw [dQ (h x (by simp [Op.operands]))]
 | lookup t p k ok=>
  show rd e p _=rd e' p _
  rw [dQ (h p (by simp [Op.operands]))];congr 1;funext c;rw [dQ (h k (by simp [Op.operands]))]
 | typeAssert x xT t ok=>exact dQ (h x (by simp [Op.operands]))
 | range t x=>exact dQ (h x (by simp [Op.operands]))
 | next x b=>exact dQ (h x (by simp [Op.operands]))
 | call c=>
  obtain⟨callee,args,er⟩:=c;cases callee with
  | builtin b=>exact qe fun x hx=>h x (by simp [Op.operands,Call.operands];simpa using hx)
  | _=>rfl
 | _=>rfl
theorem IG {o:Oper} (h:c₄ (sN o) 1=true):jv P T e m cnt o=jv P T e m' cnt o:=by
 obtain⟨dst,op,ty,pos,after,guard⟩:=o;cases op with
 | call c=>
  obtain⟨callee,args,er⟩:=c;cases callee with
  | builtin b=>cases b <;> first | rfl | (cases h;done)
  | _=>rfl
 | load t x=>cases h
 | store t x y=>cases h
 | convert s d x=>cases h
 | slice t x lo hi mx=>cases h
 | mapUpdate t p k x=>cases h
 | next x b=>cases h
 | lookup t p k ok=>cases h
 | buildSlice t n parts=>
  match n,h with
  | 0,_=>rfl
  | 1,h=>cases h
  | _ + 2,_=>rfl
 | _=>rfl
theorem Ck {o:Oper} (h:sN o=2) (hs:fX m m') {K:MV×Dl→Prop} (hr:(jv P T e m cnt o).runP K):(jv P T e m' cnt o).runP K:=by
 have step: ∀{x:Operand} {k k':MV→bz (MV×Dl)},(∀v,(k v).runP K→(k' v).runP K)→(rd e x k).runP K→(rd e x k').runP K:=by
  intro x k k' hk h;unfold rd at h ⊢;split at h
  ·exact hk _ h
  ·exact h.elim
 obtain⟨dst,op,ty,pos,after,guard⟩:=o;cases op with
 | call c=>
  obtain⟨callee,args,er⟩:=c;cases callee with
  | builtin b=>cases b <;> cases h
  | _=>exact hr
 | load t x=>
  refine step (fun p hp=>?_) hr;unfold iv at hp ⊢;split at hp
  ·exact hp.elim
  ·split at hp
   ·split at hp
    ·rename_i b hb;obtain⟨b',h1,h2,h3,h4,h5⟩:=hs _ _ hb;simp only [h1,h2,h4];exact hp
    ·exact hp.elim
   ·exact hp
   ·exact hp.elim
 | slice t x lo hi mx=>
  have SY: ∀{x:Option Operand} {k k':Option MV→bz (MV×Dl)},(∀v,(k v).runP K→(k' v).runP K)→(OS e x k).runP K→(OS e x k').runP K:=by
   intro x k k' hk h;cases x with
   | none=>exact hk _ h
   | some x=>exact step (fun v hv=>hk _ hv) h
  cases mx with
  | some _=>exact hr
  | none=>
  refine step (fun p hp=>SY (fun lo hp=>SY (fun hi hp=>?_) hp) hp) hr;unfold fW at hp ⊢;split at hp
  ·split at hp
   ·rename_i b hb;obtain⟨b',h1,h2,h3,h4,h5⟩:=hs _ _ hb;obtain⟨Ob,gr,UJ,pe',l'⟩:=b';simp only at h2 h3 h4 h5;subst h2;simp only [h1];exact hp
   ·exact hp.elim
  ·exact hp
 | lookup t p k ok=>
  refine step (fun p hp=>step (fun q hp=>?_) hp) hr;unfold iw at hp ⊢;split at hp
  ·split at hp
   ·rename_i b hb;obtain⟨b',h1,h2,h3,h4,h5⟩:=hs _ _ hb;simp only [h1,h2];exact hp
   ·exact hp.elim
  ·exact hp.elim
 | convert s d x=>
  refine step (fun p hp=>?_) hr;unfold nq at hp ⊢;split at hp
  ·exact hp
  ·exact hp
  ·exact hp
  ·split at hp
   ·rename_i b ht hb;obtain⟨b',h1,h2,h3,h4,h5⟩:=hs _ _ hb;obtain⟨Ob,gr,UJ,pe',l'⟩:=b';simp only at h2 h3 h4 h5;subst h2;subst h4;simp only [ht,h1];exact hp
   ·exact hp.elim
  ·exact hp
  ·exact hp.elim
 | buildSlice t n parts=>
  match n,h with
  | 0,h=>cases h
  | 1,h=>cases h
  | _ + 2,h=>cases h
 | _=>cases h
mutual
theorem Cl (hs:fX m m'): ∀{p:MV} {K:MV×List (Nat×Nat)→Prop},(dO m p).runP K→(dO m' p).runP fun x=>K x∧∀c∈x.2,m c.1≠none
 | .ms c es off n,K,h=>by
  simp only [dO] at h ⊢
  split at h
  ·rename_i b hb
   obtain⟨b',h1,h2,h3,h4,h5⟩:=hs _ _ hb
   obtain⟨Ob,gr,UJ,pe',l'⟩:=b'
   simp only at h2 h3 h4 h5
   subst h2;subst h4;subst h3
   simp only [h1]
   split at h
   ·obtain⟨a1,l,a2,h⟩:=h
    exact⟨a1,l,a2,h,fun c hc=>by simp at hc;subst hc;rw [hb];simp⟩
   ·exact h.elim
  ·exact h.elim
 | .st l,K,h=>by simp only [dO] at h ⊢;exact dV (lr hs (bz.bind_runP.1 h)) fun _ h=>h
 | .fn f l,K,h=>by simp only [dO] at h ⊢;exact dV (lr hs (bz.bind_runP.1 h)) fun _ h=>h
 | .ifc t v,K,h=>by simp only [dO] at h ⊢;exact jh (Cl hs (bz.bind_runP.1 h)) fun _ h=>h
 | .ptr c es k fo path,K,h=>by
  simp only [dO] at h ⊢
  split at h
  ·rename_i b hb
   obtain⟨b',h1,h2,h3,h4,h5⟩:=hs _ _ hb
   obtain⟨Ob,gr,UJ,pe',l'⟩:=b'
   simp only at h2 h3 h4 h5
   subst h2;subst h4;subst h3
   simp only [h1]
   cases he:a₂ b.es es with
   | false=>rw [he] at h;exact h.elim
   | true=>
    rw [he] at h
    obtain⟨v,q1,h⟩:=h
    cases hf:v.idFree with
    | false=>rw [hf] at h;exact h.elim
    | true=>rw [hf] at h;exact⟨v,q1,by simp only [hf];exact⟨h,fun c hc=>by simp at hc;subst hc;rw [hb];simp⟩⟩
  ·exact h.elim
 | .tup _,K,h=>by simp only [dO] at h;exact h.elim
 | .undef,K,h=>by simp only [dO] at h;exact h.elim
 | .mp _,K,h=>by simp only [dO] at h;exact h.elim
 | .mpv ..,K,h=>by simp only [dO] at h;exact h.elim
 | .int ..,K,h=>by simp only [dO] at h ⊢;exact⟨h,fun _ hc=>nomatch hc⟩
 | .bool ..,K,h=>by simp only [dO] at h ⊢;exact⟨h,fun _ hc=>nomatch hc⟩
 | .str ..,K,h=>by simp only [dO] at h ⊢;exact⟨h,fun _ hc=>nomatch hc⟩
 | .nilp,K,h=>by simp only [dO] at h ⊢;exact⟨h,fun _ hc=>nomatch hc⟩
 | .gp ..,K,h=>by simp only [dO] at h ⊢;exact⟨h,fun _ hc=>nomatch hc⟩
 | .ep ..,K,h=>by simp only [dO] at h ⊢;exact⟨h,fun _ hc=>nomatch hc⟩
 | .sl ..,K,h=>by simp only [dO] at h ⊢;exact⟨h,fun _ hc=>nomatch hc⟩
 | .nils,K,h=>by simp only [dO] at h ⊢;exact⟨h,fun _ hc=>nomatch hc⟩
 | .nilf,K,h=>by simp only [dO] at h ⊢;exact⟨h,fun _ hc=>nomatch hc⟩
 | .nili,K,h=>by simp only [dO] at h ⊢;exact⟨h,fun _ hc=>nomatch hc⟩
 | .arr ..,K,h=>by simp only [dO] at h ⊢;exact⟨h,fun _ hc=>nomatch hc⟩
theorem lr (hs:fX m m'): ∀{l:List MV} {K:List MV×List (Nat×Nat)→Prop},(gN m l).runP K→(gN m' l).runP fun x=>K x∧∀c∈x.2,m c.1≠none
 | [],K,h=>⟨h,fun _ hc=>nomatch hc⟩
 | q :: l,K,h=>by
  simp only [gN] at h ⊢
  refine jh (Cl hs (bz.bind_runP.1 h)) fun x hx=>?_
  refine dV (lr hs (bz.bind_runP.1 hx.1)) fun y hy=>⟨hy.1,fun c hc=>?_⟩
  rcases b₅.1 hc with hc | hc
  ·exact hx.2 c hc
  ·exact hy.2 c hc
end
end
end
section
section
variable (Pg:Program) (T:bD) (ents:List FuncId) (G:GS)
def iz (e:Nat→Option MV) (m:FM) (f:Operand) (args:List Operand):bz (FuncId×List MV×List (Nat×Nat)):=
 rd e f fun fv=>oM e args fun vs=>match fv with
  | .fn f0 caps=>(gN m (vs ++ caps)).bind fun r=> .ret (f0,r.1,r.2)
  | _=> .bad
def mq (o:Oper) (e:Nat→Option MV) (m:FM) (n:Nat) (r:MV) (δ:Dl):Prop:=match o.op with
 | .call c=>match c.callee with
  | .value f=>(iz e m f c.args.toList).runP fun x=>ents.contains x.1=true∧aE Pg G x.1 x.2.1 r∧δ= .bump x.2.2∧∀c∈x.2.2,m c.1≠none
  | _=>(jv Pg T e m n o).runP fun x=>x=(r,δ)
 | _=>(jv Pg T e m n o).runP fun x=>x=(r,δ)
def EZ (ops:Array Oper) (o:Oper) (e:Nat→Option MV):Option Bool:=match o.guard with
 | none=>some true
 | some (j,want)=>match (ops[j]?).bind (·.dst) with
  | none=>none
  | some s=>match e s with
   | some (.bool t)=>some (t == want)
   | some .undef=>some false
   | _=>none
def pz (ops:Array Oper) (o:Oper) (e:Nat→Option MV) (m:FM) (n:Nat) (r:MV) (δ:Dl):Prop:=
 ∃b,EZ ops o e=some b∧(b=true→mq Pg T ents G o e m n r δ)∧(b=false→r= .undef∧δ= .none)
def mr (dst:Option Tmp) (r:MV) (e:Nat→Option MV):Nat→Option MV:=match dst with
 | none=>e
 | some d=>aR e d r
end
section
variable {Pg:Program} {T:bD} {ents:List FuncId} {G:GS} {ops:Array Oper} {o:Oper} {e e':Nat→Option MV} {m m':FM} {n:Nat} {r:MV} {δ:Dl}
theorem IH {f:Operand} {args:List Operand} (h1:jL e f=jL e' f) (h2:Ag e e' args):iz e m f args=iz e' m f args:=by
 unfold iz;rw [dQ h1];congr 1;funext v;rw [qe h2]
theorem KT (h:Ag e e' o.op.operands.toList):mq Pg T ents G o e m n r δ→mq Pg T ents G o e' m n r δ:=by
 have hp:jv Pg T e m n o=jv Pg T e' m n o:=O6 h;unfold mq;split
 ·rename_i c hc;rw [hc] at h;split
  ·rename_i f hf;intro hr;have:=IH (m:=m) (args:=c.args.toList) (h f (by simp [Op.operands,Call.operands,hf])) fun x hx=>h x (by simp [Op.operands,Call.operands,hf];exact .inr (by simpa using hx))
   rw [← this];exact hr
  ·rw [hp];exact id
 ·rw [hp];exact id
theorem E0 (h:c₄ (sN o) 1=true):mq Pg T ents G o e m n r δ→mq Pg T ents G o e m' n r δ:=by
 have hp:jv Pg T e m n o=jv Pg T e m' n o:=IG h;unfold mq;split
 ·rename_i c hc;split
  ·rename_i f hf;simp [sN,hc,hf] at h
  ·rw [hp];exact id
 ·rw [hp];exact id
theorem II (h:sN o=2) (hs:fX m m'):mq Pg T ents G o e m n r δ→mq Pg T ents G o e m' n r δ:=by
 unfold mq;split
 ·rename_i c hc;split
  ·rename_i f hf;intro hr;unfold iz at hr ⊢;unfold rd at hr ⊢;split at hr
   ·rename_i v hv;generalize c.args.toList=az at hr;have key: ∀(az:List Operand) (k k':List MV→bz (FuncId×List MV×List (Nat×Nat))) (K K':FuncId×List MV×List (Nat×Nat)→Prop),(∀vs,(k vs).runP K→(k' vs).runP K')→(oM e az k).runP K→(oM e az k').runP K':=by
     intro az
     induction az with
     | nil=>intro k k' K K' hk h;exact hk _ h
     | cons x az ih=>
      intro k k' K K' hk h;unfold oM rd at h ⊢;split at h
      ·exact ih _ _ K K' (fun vs h=>hk _ h) h
      ·exact h.elim
    refine key az _ _ _ _ (fun vs hk=>?_) hr;split at hk
    ·refine dV (lr hs (bz.bind_runP.1 hk)) fun x hx=>?_
     obtain⟨⟨h1,h2,h3,_⟩,h4⟩:=hx;refine⟨h1,h2,h3,fun c hc=>?_⟩;cases hb:m c.1 with
     | none=>exact absurd hb (h4 c hc)
     | some b=>
      obtain⟨b',h5,_⟩:=hs _ _ hb;rw [h5];simp
    ·exact hk.elim
   ·exact hr.elim
  ·exact fun hr=>Ck h hs hr
 ·exact fun hr=>Ck h hs hr
def DL (m:FM):Nat→Dl→Prop
 | 0,δ=>δ= .none
 | 1,δ=>δ= .none∨∃b,δ= .new b
 | 2,δ=>δ= .none∨∃l,δ= .bump l∧∀c∈l,m c.1≠none
 | _,_=>True
theorem KU (h:mq Pg T ents G o e m n r δ):DL m (sN o) δ:=by
 have hp:(jv Pg T e m n o).runP (fun x=>x=(r,δ))→DL m (sN o) δ:=by
  intro h;obtain⟨r',δ',h1,h2⟩:=GQ Pg T e m n o _ h;injection h2 with h2 h3
  subst h3;generalize sN o=k at h1
  match k,h1 with
  | 0,h1=>exact h1
  | 1,h1=>exact .inr h1
  | 2,h1=>exact h1
  | _ + 3,h1=>exact trivial
 unfold mq at h;split at h
 ·rename_i c hc;split at h
  ·rename_i f hf;have hk:sN o=2:=by simp [sN,hc,hf]
   rw [hk];unfold iz rd at h;split at h
   ·have key: ∀(az:List Operand) (k:List MV→bz (FuncId×List MV×List (Nat×Nat))) (K:FuncId×List MV×List (Nat×Nat)→Prop),(oM e az k).runP K→∃vs,(k vs).runP K:=by
     intro az
     induction az with
     | nil=>intro k K h;exact⟨_,h⟩
     | cons x az ih=>
      intro k K h;unfold oM rd at h;split at h
      ·obtain⟨vs,h⟩:=ih _ K h;exact⟨_,h⟩
      ·exact h.elim
    obtain⟨vs,h⟩:=key _ _ _ h;split at h
    ·obtain⟨_,x,_,h⟩:=iM (bz.bind_runP.1 h);obtain⟨h1,h2,h3,h4⟩:=h;exact .inr ⟨_,h3,h4⟩
    ·exact h.elim
   ·exact h.elim
  ·exact hp h
 ·exact hp h
theorem wb (h:pz Pg T ents G ops o e m n r δ):DL m (sN o) δ:=by
 obtain⟨b,h1,h2,h3⟩:=h;cases b with
 | true=>exact KU (h2 rfl)
 | false=>
  rw [(h3 rfl).2];generalize sN o=k
  match k with
  | 0=>exact rfl
  | 1=>exact .inl rfl
  | 2=>exact .inl rfl
  | _ + 3=>exact trivial
theorem iP (h:c₄ (sN o) 1=true):pz Pg T ents G ops o e m n r δ→pz Pg T ents G ops o e m' n r δ:=by
 rintro⟨b,h1,h2,h3⟩;exact⟨b,h1,fun hb=>E0 h (h2 hb),h3⟩
theorem lu (h:sN o=2) (hs:fX m m'):pz Pg T ents G ops o e m n r δ→pz Pg T ents G ops o e m' n r δ:=by
 rintro⟨b,h1,h2,h3⟩;exact⟨b,h1,fun hb=>II h hs (h2 hb),h3⟩
theorem wc (h: ∀t∈o.looksAt ops,e t=e' t):pz Pg T ents G ops o e m n r δ→pz Pg T ents G ops o e' m n r δ:=by
 rintro⟨b,h1,h2,h3⟩;refine⟨b,?_,fun hb=>KT (fun x hx=>KS fun t ht=>h t ?_) (h2 hb),h3⟩
 ·rw [← h1];unfold EZ;split
  ·rfl
  ·rename_i j want hg;split
   ·rfl
   ·rename_i s hs;rw [h s (by
     unfold Oper.looksAt;rw [hg];simp [hs])]
 ·subst ht;unfold Oper.looksAt;refine b₅.2 (.inl ?_);rw [List.mem_filterMap];exact⟨_,hx,rfl⟩
end
end
section
mutual
def numsV:MV→List Nat
 | .ptr c _ _ _ _=> [c]
 | .ms c _ _ _=> [c]
 | .mp c=> [c]
 | .st l=>numsVs l
 | .fn _ l=>numsVs l
 | .tup l=>numsVs l
 | .ifc _ v=>numsV v
 | _=> []
def numsVs:List MV→List Nat
 | [] => []
 | m :: l=>numsV m ++ numsVs l
end
def numsO (e:Nat→Option MV):List Operand→List Nat
 | [] => []
 | x :: l=>(match jL e x with | some v=>numsV v | none=> []) ++ numsO e l
section
variable {P:Program} {T:bD} {e:Nat→Option MV} {m m':FM} {cnt:Nat} {A:Type}
theorem jx {x:Operand} {k k':MV→bz A} (h: ∀v,jL e x=some v→k' v=k v):rd e x k'=rd e x k:=by
 unfold rd;cases hx:jL e x with
 | none=>rfl
 | some v=>exact h v hx
theorem Aw: ∀{l:List Operand} {k k':List MV→bz A},(∀vs,l.map (jL e)=vs.map some→k' vs=k vs)→oM e l k'=oM e l k
 | [],_,_,h=>h [] rfl
 | x :: l,k,k',h=>by
  show rd e x _=rd e x _
  exact jx fun v hv=>Aw fun vs tU=>h (v :: vs) (by simp [hv,tU])
theorem kd: ∀{l:List Operand} {vs:List MV},l.map (jL e)=vs.map some→numsO e l=numsVs vs
 | [],[],_=>rfl
 | x :: l,v :: vs,h=>by
  simp only [c₅,List.cons.injEq] at h
  simp only [numsO,numsVs,h.1,kd h.2]
 | [],_ :: _,h=>by simp at h
 | _ :: _,[],h=>by simp at h
theorem qf: ∀(l r:List MV),numsVs (l ++ r)=numsVs l ++ numsVs r
 | [],r=>rfl
 | m :: l,r=>by simp [numsVs,qf l r]
abbrev xR (m' m:FM) (S:List Nat):Prop:= ∀c∈S,m' c=m c
mutual
theorem GR: ∀{p:MV},xR m' m (numsV p)→dO m' p=dO m p
 | .ptr c es k fo path,h=>by simp only [dO,h c (by simp [numsV])]
 | .ms c es off n,h=>by simp only [dO,h c (by simp [numsV])]
 | .st l,h=>by simp only [dO];rw [qT (l:=l) h]
 | .fn f l,h=>by simp only [dO];rw [qT (l:=l) h]
 | .ifc t v,h=>by simp only [dO];rw [GR (p:=v) h]
 | .tup _,_=>rfl
 | .undef,_=>rfl
 | .mp _,_=>rfl
 | .mpv ..,_=>rfl
 | .int ..,_=>rfl
 | .bool ..,_=>rfl
 | .str ..,_=>rfl
 | .nilp,_=>rfl
 | .gp ..,_=>rfl
 | .ep ..,_=>rfl
 | .sl ..,_=>rfl
 | .nils,_=>rfl
 | .nilf,_=>rfl
 | .nili,_=>rfl
 | .arr ..,_=>rfl
theorem qT: ∀{l:List MV},xR m' m (numsVs l)→gN m' l=gN m l
 | [],_=>rfl
 | q :: l,h=>by
  simp only [gN]
  rw [GR (p:=q) fun c hc=>h c (by simp [numsVs,hc]),qT (l:=l) fun c hc=>h c (by simp [numsVs,hc])]
end
theorem IJ {t:TypeId} {p:MV} (h:xR m' m (numsV p)):iv T m' t p=iv T m t p:=by
 unfold iv;cases p with
 | ptr c es k fo path=>simp only [h c (by simp [numsV])]
 | _=>rfl
theorem E3 {t:TypeId} {p v:MV} (h:xR m' m (numsV p)):gK T m' t p v=gK T m t p v:=by
 unfold gK;cases p with
 | ptr c es k fo path=>simp only [h c (by simp [numsV])]
 | _=>rfl
theorem Cm {t:TypeId} {p:MV} {lo hi:Option MV} (h:xR m' m (numsV p)):fW T m' t p lo hi=fW T m t p lo hi:=by
 unfold fW;split
 ·have hh:=h _ (a₈ ..);simp only [hh]
 ·rfl
theorem IK {s d:TypeId} {p:MV} (h:xR m' m (numsV p)):nq T m' s d p=nq T m s d p:=by
 unfold nq;split
 ·rfl
 ·rfl
 ·rfl
 ·have hh:=h _ (a₈ ..);simp only [hh]
 ·rfl
 ·rfl
theorem KV {es:Nat} {y:MV} {k:Nat→List MV→bz (MV×Dl)} (h:xR m' m (numsV y)):qF m' es y k=qF m es y k:=by
 unfold qF;cases y with
 | ms c es off n=>simp only [h c (by simp [numsV])]
 | _=>rfl
theorem Cn {er:List TypeId} {x y:MV} (hx:xR m' m (numsV x)) (hy:xR m' m (numsV y)):gT P T m' cnt er x y=gT P T m cnt er x y:=by
 unfold gT;have hs: ∀es k,qF m' es y k=qF m es y k:=fun es k=>KV hy
 cases x with
 | ms c es off n=>simp only [hs,hx c (by simp [numsV])]
 | _=>simp only [hs]
theorem Co {t:TypeId} {p k x:MV} (h:xR m' m (numsV p)):gU P m' t p k x=gU P m t p k x:=by
 unfold gU;split
 ·have hh:=h _ (a₈ ..);simp only [hh]
 ·rfl
theorem IL {p:MV} {b:Bool} (h:xR m' m (numsV p)):mT m' p b=mT m p b:=by
 unfold mT;split
 ·have hh:=h _ (a₈ ..);simp only [hh]
 ·rfl
theorem Cp {t:TypeId} {p k:MV} {ok:Bool} (h:xR m' m (numsV p)):iw P T m' t p k ok=iw P T m t p k ok:=by
 unfold iw;split
 ·have hh:=h _ (a₈ ..);simp only [hh]
 ·rfl
theorem Ax {b:Builtin} {er:Array TypeId} {vs:List MV} (h:xR m' m (numsVs vs)):fA P T m' cnt b er vs=fA P T m cnt b er vs:=by
 cases b with
 | append=>
  unfold fA
  match vs,h with
  | [x,y],h=>exact Cn (fun c hc=>h c (by simp [numsVs,hc])) fun c hc=>h c (by simp [numsVs,hc])
  | [],_=>rfl
  | [_],_=>rfl
  | _ :: _ :: _ :: _,_=>rfl
 | _=>rfl
theorem Cq {is:List Nat} {vs:List MV} {c es off k:Nat} (h:is.zip vs= [(0, .ms c es off k)]):c∈numsVs vs:=by
 cases is with
 | nil=>simp at h
 | cons i is=>
  cases vs with
  | nil=>simp at h
  | cons v vs=>
   rw [List.zip_cons_cons] at h;injection h with h1 h2
   injection h1 with h1 h3
   subst h3;simp [numsVs,numsV]
theorem O7 {o:Oper} (h:xR m' m (numsO e o.op.operands.toList)):jv P T e m' cnt o=jv P T e m cnt o:=by
 obtain⟨dst,op,ty,pos,after,guard⟩:=o;replace h:xR m' m (numsO e op.operands.toList):=h;cases op with
 | load t x=>
  refine jx fun v hv=>IJ fun c hc=>h c ?_
  simp [Op.operands,numsO,hv,hc]
 | slice t x lo hi mx=>
  cases mx with
  | some _=>rfl
  | none=>
  refine jx fun v hv=>?_
  have e1: ∀lo hi,fW T m' t v lo hi=fW T m t v lo hi:=fun lo hi=>Cm fun c hc=>h c (by simp [Op.operands,numsO,hv,hc])
  simp only [e1]
 | store t x y=>
  refine jx fun v hv=>jx fun u _=>E3 fun c hc=>h c ?_
  simp [Op.operands,numsO,hv,hc]
 | mapUpdate t p k x=>
  refine jx fun v hv=>jx fun u _=>jx fun u2 _=>Co fun c hc=>h c ?_
  simp [Op.operands,numsO,hv,hc]
 | next x b=>
  refine jx fun v hv=>IL fun c hc=>h c ?_
  simp [Op.operands,numsO,hv,hc]
 | lookup t p k ok=>
  refine jx fun v hv=>jx fun u _=>Cp fun c hc=>h c ?_
  simp [Op.operands,numsO,hv,hc]
 | convert s d x=>
  refine jx fun v hv=>IK fun c hc=>h c ?_
  simp [Op.operands,numsO,hv,hc]
 | buildSlice t n parts=>
  refine Aw fun vs tU=>?_
  generalize hz:(parts.toList.map (·.1)).zip vs=zs;have e:(Op.buildSlice t n parts).operands.toList=parts.toList.map (·.2):=by simp [Op.operands]
  rw [e,kd tU] at h
  show(match oN n zs with | some x=>_ | none=>_)=(match oN n zs with | some x=>_ | none=>_)
  split
  ·rename_i x hx;obtain⟨rfl,rfl⟩:=nw hx;have hc:x.1∈numsVs vs:=Cq hz;unfold fw;simp only [h _ hc]
  ·rfl
 | call c=>
  obtain⟨callee,args,er⟩:=c;cases callee with
  | builtin b=>
   refine Aw fun vs tU=>Ax fun c hc=>h c ?_
   have e:(Op.call ⟨.builtin b,args,er⟩).operands.toList=args.toList:=by simp [Op.operands,Call.operands]
   rw [e,kd tU];exact hc
  | _=>rfl
 | _=>rfl
def fP (S:List Nat):Dl→Prop
 | .none=>True
 | .new _=>True
 | .upd c _=>c∈S
 | .mv c _=>c∈S
 | .bump l=> ∀x∈l,x.1∈S
theorem Cr {t:TypeId} {p v:MV}:ar (fP (numsV p)) (gK T m t p v):=by
 unfold gK;split
 ·exact ar.bad
 ·split
  ·split
   ·exact ar.cond (ar.prf (ar.ask fun _=>ar.ask fun _=>ar.val fun _=>ar.ret (by simp [fP,numsV]))) ar.bad
   ·exact ar.bad
  ·exact ar.bad
theorem Ay {t:TypeId} {p k x:MV}:ar (fP (numsV p)) (gU P m t p k x):=by
 unfold gU;split
 ·split
  ·split
   ·refine ar.cond (ar.prf (ar.ask fun _=>ar.ask fun r=>?_)) ar.bad;cases r <;> exact ar.val fun _=>ar.ret (by simp [fP,numsV])
   ·exact ar.bad
  ·exact ar.bad
 ·exact ar.bad
theorem E4 {p:MV} {b:Bool}:ar (fP (numsV p)) (mT m p b):=by
 unfold mT;split
 ·split
  ·split
   ·refine ar.ask fun _=>ar.val fun r=>?_
    rcases r with _ | ⟨_,_⟩
    ·exact ar.ret (by simp [fP,numsV])
    ·exact ar.ret (by simp [fP,numsV])
   ·exact ar.bad
  ·exact ar.bad
 ·exact ar.bad
theorem Az {er:List TypeId} {x y:MV}:ar (fP (numsV x)) (gT P T m cnt er x y):=by
 have src: ∀{es:Nat} {k:Nat→List MV→bz (MV×Dl)},(∀n l,ar (fP (numsV x)) (k n l))→ar (fP (numsV x)) (qF m es y k):=by
  intro es k hk;unfold qF;split
  ·exact ar.prf (hk _ _)
  ·exact hk _ _
  ·split
   ·exact ar.cond (ar.prf (ar.val fun _=>hk _ _)) ar.bad
   ·exact ar.bad
  ·exact ar.bad
 unfold gT;split
 ·refine ar.cond ?_ ar.bad;split
  ·split
   ·refine ar.cond (ar.ask fun _=>src fun n l=>?_) ar.bad;split
    ·exact ar.prf (ar.ret trivial)
    ·split
     ·exact ar.cond (ar.prf (ar.val fun _=>ar.val fun _=>ar.ret (by simp [fP,numsV]))) ar.bad
     ·exact ar.bad
    ·exact ar.bad
   ·exact ar.bad
  ·exact ar.bad
 ·exact ar.bad
theorem fP.sub {S S':List Nat} {δ:Dl} (h:fP S δ) (hs: ∀c∈S,c∈S'):fP S' δ:=by
 cases δ with
 | none=>trivial
 | new=>trivial
 | upd c l=>exact hs c h
 | mv c b=>exact hs c h
 | bump l=>exact fun x hx=>hs _ (h x hx)
theorem nB: ∀{l:List Operand} {k:List MV→bz A} {K:A→Prop},(oM e l k).runP K→∃vs,l.map (jL e)=vs.map some∧(k vs).runP K
 | [],_,_,h=>⟨[],rfl,h⟩
 | x :: l,k,K,h=>by
  unfold oM rd at h
  split at h
  ·rename_i v hv
   obtain⟨vs,h1,h2⟩:=nB (k:=fun r=>k (v :: r)) h
   exact⟨v :: vs,by simp [hv,h1],h2⟩
  ·exact h.elim
theorem Cs {o:Oper} {r:MV} {δ:Dl} (h:(jv P T e m cnt o).runP fun x=>x=(r,δ)):fP (numsO e o.op.operands.toList) δ:=by
 have gen:c₄ (sN o) 1=true→fP (numsO e o.op.operands.toList) δ:=by
  intro hk;obtain⟨r',δ',h1,h2⟩:=GQ P T e m cnt o _ h;injection h2 with h2 h3
  subst h3;generalize sN o=k at h1 hk
  match k,h1,hk with
  | 0,h1,_=>rw [show δ'= .none from h1];trivial
  | 1,h1,_=>obtain ⟨b,h1⟩:=(show ∃b,δ'= .new b from h1);rw [h1];trivial
  | _ + 2,_,hk=>simp at hk
 have qq: ∀{x:Operand} {k:MV→bz (MV×Dl)} {S:List Nat},(∀v,jL e x=some v→ar (fP S) (k v))→(rd e x k).runP (fun x=>x=(r,δ))→fP S δ:=by
  intro x k S hk h;unfold rd at h;split at h
  ·rename_i v hv;obtain⟨r',δ',h1,h2⟩:=hk v hv _ h;injection h2 with h2 h3
   subst h3;exact h1
  ·exact h.elim
 obtain⟨dst,op,ty,pos,after,guard⟩:=o;cases op with
 | load t x=>
  refine qq (S:=numsO e [x]) (fun v hv=>(yR T m _ _).weak fun δ hδ=>?_) h;rw [hδ];trivial
 | convert s d x=>
  refine qq (S:=numsO e [x]) (fun v hv=>(yS T m _ _ _).weak fun δ hδ=>?_) h;rw [hδ];trivial
 | lookup t p k ok=>
  refine qq (S:=numsO e [p,k]) (fun v hv=>ar.rd fun _=>(ui P T m _ _ _ _).weak fun δ hδ=>?_) h;rw [hδ];trivial
 | next x b=>
  refine qq (S:=numsO e [x]) (fun v hv=>?_) h;intro K hK;obtain⟨r',δ',h1,h2⟩:=E4 K hK;exact⟨r',δ',h1.sub fun c hc=>by simp [numsO,hv,hc],h2⟩
 | mapUpdate t p k x=>
  refine qq (S:=numsO e [p,k,x]) (fun v hv=>?_) h;refine ar.rd fun u=>ar.rd fun u2=>?_
  intro K hK;obtain⟨r',δ',h1,h2⟩:=Ay K hK;exact⟨r',δ',h1.sub fun c hc=>by simp [numsO,hv,hc],h2⟩
 | slice t x lo hi mx=>
  cases mx with
  | some _=>exact h.elim
  | none=>
  refine qq (fun v hv=>ar.rdo fun lo'=>ar.rdo fun gS=>?_) h;unfold fW;split
  ·rename_i n e0 es c k0 k fo path hd;split
   ·split
    ·exact ar.cond (ar.ask fun _=>ar.val fun _=>ar.val fun _=>ar.ret fun y hy=>by
      simp at hy;subst hy;simp [Op.operands,numsO,hv,numsV]) ar.bad
    ·exact ar.bad
   ·exact ar.bad
  ·exact(v7 T _ _ _ _).weak fun δ hδ=>by rw [hδ];trivial
 | buildSlice t n parts=>
  match n,gen,h with
  | 0,gen,_=>exact gen rfl
  | _ + 2,gen,_=>exact gen rfl
  | 1,_,h=>
   obtain⟨vs,h1,h2⟩:=nB h;generalize hz:(parts.toList.map (·.1)).zip vs=zs at h2;have e1:(Op.buildSlice t 1 parts).operands.toList=parts.toList.map (·.2):=by simp [Op.operands]
   show fP (numsO e (Op.buildSlice t 1 parts).operands.toList) δ
   rw [e1,kd h1];split at h2
   ·rename_i x hx;obtain⟨_,rfl⟩:=nw hx;have hc:x.1∈numsVs vs:=Cq hz;have ho:ar (fP (numsVs vs)) (fw T m cnt t x.1 x.2.1 x.2.2.1 x.2.2.2):=by
     unfold fw
     repeat' split
     all_goals first | exact ar.bad | exact ar.cond (ar.prf (ar.val fun _=>ar.ret hc)) ar.bad
    obtain⟨r',δ',h3,h4⟩:=ho _ h2;injection h4 with h4 h5
    subst h5;exact h3
   ·obtain⟨r',δ',⟨b,h3⟩,h4⟩:=gV T cnt _ _ _ _ h2;injection h4 with h4 h5
    subst h5;rw [h3];trivial
 | store t x y=>
  refine qq (S:=numsO e [x,y]) (fun v hv=>?_) h;refine ar.rd fun u=>?_
  intro K hK;obtain⟨r',δ',h1,h2⟩:=Cr K hK;exact⟨r',δ',h1.sub fun c hc=>by simp [numsO,hv,hc],h2⟩
 | call c=>
  obtain⟨callee,args,er⟩:=c;cases callee with
  | builtin b=>
   cases b with
   | append=>
    have e1:(Op.call ⟨.builtin .append,args,er⟩).operands.toList=args.toList:=by simp [Op.operands,Call.operands]
    show fP (numsO e (Op.call ⟨.builtin .append,args,er⟩).operands.toList) δ
    rw [e1];replace h:(oM e args.toList fun vs=>fA P T m cnt .append er vs).runP fun x=>x=(r,δ):=h
    have key: ∀(l:List Operand) (k:List MV→bz (MV×Dl)) (K:MV×Dl→Prop),(oM e l k).runP K→∃vs,l.map (jL e)=vs.map some∧(k vs).runP K:=by
     intro l
     induction l with
     | nil=>intro k K h;exact⟨[],rfl,h⟩
     | cons x l ih=>
      intro k K h;unfold oM rd at h;split at h
      ·rename_i v hv;obtain⟨vs,h1,h2⟩:=ih _ K h;exact⟨v :: vs,by simp [hv,h1],h2⟩
      ·exact h.elim
    obtain⟨vs,h1,h2⟩:=key _ _ _ h;rw [kd h1];unfold fA at h2;simp only at h2;split at h2
    ·rename_i x y;obtain⟨r',δ',h3,h4⟩:=Az _ h2;injection h4 with h4 h5
     subst h5;exact h3.sub fun c hc=>by simp [numsVs,hc]
    ·exact h2.elim
   | _=>exact gen rfl
  | _=>exact h.elim
 | _=>exact gen rfl
theorem KW {S:List Nat} {δ:Dl} (h:fP S δ) {c:Nat} (hc:c ∉ S) (hn:c≠cnt):δ.appF cnt m c=m c:=by
 cases δ with
 | none=>rfl
 | new b=>exact aL _ _ hn
 | upd c' l=>
  show(match m c' with | some b=>aR m c' { b with l:=l } | none=>m) c=m c
  cases m c' with
  | none=>rfl
  | some b=>exact aL _ _ (by rintro rfl;exact hc h)
 | mv c' b=>
  show aR (jJ m c') cnt b c=m c
  rw [aL _ _ hn];unfold jJ;rw [if_neg (by rintro rfl;exact hc h)]
 | bump l=>
  show dH m l c=m c
  rw [bumpF_get];have h': ∀x∈l,x.1∈S:=h
  clear h;have:mxB l c=0:=by
   induction l with
   | nil=>rfl
   | cons x l ih=>
    obtain⟨k,n⟩:=x;have:k≠c:=by rintro rfl;exact hc (h' (k,n) sm)
    simp only [mxB,this,if_false];exact ih fun y hy=>h' y (by simp [hy])
  rw [this];cases m c with
  | none=>rfl
  | some b=>simp
theorem O8 {S:List Nat} {δ:Dl} (h:fP S δ) (ha: ∀c,c∈S∨c=cnt→m' c=m c) {c:Nat} (hc:c∈S∨c=cnt):δ.appF cnt m' c=δ.appF cnt m c:=by
 cases δ with
 | none=>exact ha c hc
 | new b=>
  show aR m' cnt b c=aR m cnt b c
  unfold aR;split
  ·rfl
  ·exact ha c hc
 | upd c' l=>
  show(match m' c' with | some b=>aR m' c' { b with l:=l } | none=>m') c=(match m c' with | some b=>aR m c' { b with l:=l } | none=>m) c
  rw [ha c' (.inl h)];cases m c' with
  | none=>exact ha c hc
  | some b=>
   show aR m' c' _ c=aR m c' _ c
   unfold aR;split
   ·rfl
   ·exact ha c hc
 | mv c' b=>
  show aR (jJ m' c') cnt b c=aR (jJ m c') cnt b c
  unfold aR jJ;split
  ·rfl
  ·split
   ·rfl
   ·exact ha c hc
 | bump l=>
  show dH m' l c=dH m l c
  rw [bumpF_get,bumpF_get,ha c hc]
mutual
theorem Ct: ∀{p:MV} {K:MV×List (Nat×Nat)→Prop},(dO m p).runP K→(dO m p).runP fun x=>K x∧∀z∈x.2,z.1∈numsV p
 | .ms c es off n,K,h=>by
  simp only [dO] at h ⊢
  split at h
  ·split at h
   ·obtain⟨a1,l,a2,h⟩:=h
    exact⟨a1,l,a2,h,fun z hz=>by simp at hz;subst hz;simp [numsV]⟩
   ·exact h.elim
  ·exact h.elim
 | .st l,K,h=>by simp only [dO] at h ⊢;exact dV (lz (bz.bind_runP.1 h)) fun _ h=>h
 | .fn f l,K,h=>by simp only [dO] at h ⊢;exact dV (lz (bz.bind_runP.1 h)) fun _ h=>h
 | .ifc t v,K,h=>by simp only [dO] at h ⊢;exact jh (Ct (bz.bind_runP.1 h)) fun _ h=>h
 | .ptr c es k fo path,K,h=>by
  simp only [dO] at h ⊢
  split at h
  ·rename_i b hb
   cases he:a₂ b.es es with
   | false=>rw [he] at h;exact h.elim
   | true=>
    rw [he] at h
    obtain⟨v,q1,h⟩:=h
    cases hf:v.idFree with
    | false=>rw [hf] at h;exact h.elim
    | true=>rw [hf] at h;exact⟨v,q1,by simp only [hf];exact⟨h,fun z hz=>by simp at hz;subst hz;simp [numsV]⟩⟩
  ·exact h.elim
 | .tup _,K,h=>by simp only [dO] at h;exact h.elim
 | .undef,K,h=>by simp only [dO] at h;exact h.elim
 | .mp _,K,h=>by simp only [dO] at h;exact h.elim
 | .mpv ..,K,h=>by simp only [dO] at h;exact h.elim
 | .int ..,K,h=>by simp only [dO] at h ⊢;exact⟨h,fun _ hc=>nomatch hc⟩
 | .bool ..,K,h=>by simp only [dO] at h ⊢;exact⟨h,fun _ hc=>nomatch hc⟩
 | .str ..,K,h=>by simp only [dO] at h ⊢;exact⟨h,fun _ hc=>nomatch hc⟩
 | .nilp,K,h=>by simp only [dO] at h ⊢;exact⟨h,fun _ hc=>nomatch hc⟩
 | .gp ..,K,h=>by simp only [dO] at h ⊢;exact⟨h,fun _ hc=>nomatch hc⟩
 | .ep ..,K,h=>by simp only [dO] at h ⊢;exact⟨h,fun _ hc=>nomatch hc⟩
 | .sl ..,K,h=>by simp only [dO] at h ⊢;exact⟨h,fun _ hc=>nomatch hc⟩
 | .nils,K,h=>by simp only [dO] at h ⊢;exact⟨h,fun _ hc=>nomatch hc⟩
 | .nilf,K,h=>by simp only [dO] at h ⊢;exact⟨h,fun _ hc=>nomatch hc⟩
 | .nili,K,h=>by simp only [dO] at h ⊢;exact⟨h,fun _ hc=>nomatch hc⟩
 | .arr ..,K,h=>by simp only [dO] at h ⊢;exact⟨h,fun _ hc=>nomatch hc⟩
theorem lz: ∀{l:List MV} {K:List MV×List (Nat×Nat)→Prop},(gN m l).runP K→(gN m l).runP fun x=>K x∧∀z∈x.2,z.1∈numsVs l
 | [],K,h=>⟨h,fun _ hc=>nomatch hc⟩
 | q :: l,K,h=>by
  simp only [gN] at h ⊢
  refine jh (Ct (bz.bind_runP.1 h)) fun x hx=>?_
  refine dV (lz (bz.bind_runP.1 hx.1)) fun y hy=>⟨hy.1,fun c hc=>?_⟩
  rw [numsVs,b₅]
  rcases b₅.1 hc with hc | hc
  ·exact .inl (hx.2 c hc)
  ·exact .inr (hy.2 c hc)
end
theorem Cu {B:Type}: ∀{l:List Operand} {k:List MV→bz A} {k':List MV→bz B} {K:A→Prop} {K':B→Prop},(∀vs,l.map (jL e)=vs.map some→(k vs).runP K→(k' vs).runP K')→(oM e l k).runP K→(oM e l k').runP K'
 | [],_,_,_,_,hk,h=>hk [] rfl h
 | x :: l,k,k',K,K',hk,h=>by
  unfold oM rd at h ⊢
  split at h
  ·rename_i v hv
   exact Cu (k:=fun r=>k (v :: r)) (k':=fun r=>k' (v :: r)) (fun vs tU h=>hk (v :: vs) (by simp [hv,tU]) h) h
  ·exact h.elim
section
variable {ents:List FuncId} {G:GS} {ops:Array Oper} {o:Oper} {n:Nat} {r:MV} {δ:Dl} {m1:FM}
theorem we {c:Call} {f:Operand} (hf:c.callee= .value f):(Op.call c).operands.toList=f :: c.args.toList:=by simp [Op.operands,Call.operands,hf]
theorem IM (h:mq P T ents G o e m n r δ):fP (numsO e o.op.operands.toList) δ:=by
 unfold mq at h;split at h
 ·rename_i c hc;split at h
  ·rename_i f hf;rw [hc,we hf];unfold iz rd at h;split at h
   ·rename_i v hv;obtain⟨vs,h1,h2⟩:=nB h;split at h2
    ·obtain⟨_,x,_,h4,h3⟩:=iM (lz (bz.bind_runP.1 h2));obtain⟨_,_,rfl,_⟩:=h4;intro z hz;have:=h3 z hz;rw [qf] at this;simp only [numsO,hv,numsV,kd h1,b₅] at this ⊢;exact this.symm
    ·exact h2.elim
   ·exact h.elim
  ·exact Cs h
 ·exact Cs h
theorem yT (h:pz P T ents G ops o e m n r δ):fP (numsO e o.op.operands.toList) δ:=by
 obtain⟨b,_,h2,h3⟩:=h;cases b with
 | false=>rw [(h3 rfl).2];trivial
 | true=>exact IM (h2 rfl)
theorem KX (ha:xR m1 m (numsO e o.op.operands.toList)):mq P T ents G o e m n r δ→mq P T ents G o e m1 n r δ:=by
 have hp:jv P T e m1 n o=jv P T e m n o:=O7 ha;unfold mq;split
 ·rename_i c hc;split
  ·rename_i f hf;rw [hc,we hf] at ha;intro hr;unfold iz rd at hr ⊢;split at hr
   ·rename_i v hv;refine Cu (fun vs tU h=>?_) hr;split at h
    ·rename_i f0 caps;have R7:xR m1 m (numsVs (vs ++ caps)):=fun c hc=>ha c (by
      rw [qf] at hc;simp only [numsO,hv,numsV,kd tU,b₅] at hc ⊢;exact hc.symm)
     show(gN m1 (vs ++ caps)).runP _
     rw [qT R7];refine dV (lz (bz.bind_runP.1 h)) fun x hx=>?_
     obtain⟨⟨p1,p2,p3,p4⟩,p5⟩:=hx;exact⟨p1,p2,p3,fun z hz=>by rw [R7 z.1 (p5 z hz)];exact p4 z hz⟩
    ·exact h.elim
   ·exact hr.elim
  ·rw [hp];exact id
 ·rw [hp];exact id
theorem KY (ha:xR m1 m (numsO e o.op.operands.toList)):pz P T ents G ops o e m n r δ→pz P T ents G ops o e m1 n r δ:=by
 rintro⟨b,h1,h2,h3⟩;exact⟨b,h1,fun hb=>KX ha (h2 hb),h3⟩
end
end
end
end Go.Proofs.YtohikcplmbkmeaaGreatDoor
