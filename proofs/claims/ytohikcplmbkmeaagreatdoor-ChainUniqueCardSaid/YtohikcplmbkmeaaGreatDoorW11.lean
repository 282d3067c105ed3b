/- Parts of a proof, one behind the other: WV, WX, WE, WY, WK, WL, WN, WO, WP, WQ, WZ, Z2, Ra, PR, Re, PQ, PT, PU. -/
import Derived.Test.YtohikcplmbkmeaaGreatDoorW10
open List renaming replicate → a₀,drop_eq_getElem_cons → a₃,getElem?_eq_some_iff → a₆,drop_length → a₈,map_append → a₉,length_singleton → b₀,getElem_mem → b₁,length_append → b₂,drop_zero → b₃,getElem?_eq_none → b₄,length_set → b₅,getElem?_append_right → b₆,mem_or_eq_of_mem_set → b₈,length_map → c₀,replicate_succ' → c₂,mem_map → c₃,mem_singleton → c₅,ext_getElem? → c₆,take_length → c₇,mem_append → c₈
open And renaming intro → a₁
open Prod.mk renaming injEq → a₂
open Nat renaming zero_le → a₄,le_refl → a₅,zero_add → a₇,le_of_eq → b₉,min_eq_left → c₁,lt_of_lt_of_le → c₄
open Int renaming tmod_eq_emod_of_nonneg → b₇
set_option maxRecDepth 20000
set_option maxHeartbeats 16000000
set_option linter.unusedVariables false
set_option linter.unusedSimpArgs false
namespace Go.Proofs.YtohikcplmbkmeaaGreatDoor
open Go.RowKit
section
open Go.RowKit Go.Lib Go.Shelf Go.Sort
variable {G:GS}
theorem encA_len (a:bf):(jc a).length=3:=rfl
theorem K0 {w:World} {P:bT} {adr:fV} {a:bf} {p:List Value} (h:cS w P adr (aT a) p):p=jc a:=by
 unfold aT at h;cases h with
 | st parts hp hr=>
  match parts,hp with
  | [p1,p2,p3],_=>
   have h1:=hr 0 _ p1 rfl rfl;have h2:=hr 1 _ p2 rfl rfl;have h3:=hr 2 _ p3 rfl rfl;cases h1;cases h2;cases h3;rfl
theorem K6 (w:World) (P:bT) (adr:fV) (a:bf):cS w P adr (aT a) (jc a):=by
 have h:cS w P adr (.st [.str a.name, .int .u64 a.bal, .int .u64 a.seq]) ([[.string ⟨a.name.toArray⟩],[.int .u64 a.bal],[.int .u64 a.seq]] :List (List Value)).flatten:= .st _ rfl (fun j m p hm hp=>by
  match j with
  | 0=>simp at hm hp;subst hm;subst hp;exact .str
  | 1=>simp at hm hp;subst hm;subst hp;exact .int
  | 2=>simp at hm hp;subst hm;subst hp;exact .int
  | j + 3=>simp at hm)
 exact h
theorem wU {w:World} {P:bT} {adr:fV}: ∀{l:List bf} {Q:List (List Value)},Q.length=(l.map aT).length→(∀(j:Nat) x p,(l.map aT)[j]? =some x→Q[j]? =some p→cS w P adr x p)→Q=l.map jc
 | [],[],_,_=>rfl
 | [],_ :: _,h,_=>by simp at h
 | _ :: _,[],h,_=>by simp at h
 | a :: l,q :: Q,h,hr=>by
  rw [K0 (hr 0 _ q rfl rfl),List.map_cons,wU (l:=l) (Q:=Q) (by simpa using h) fun j x p hx hp=>hr (j + 1) x p (by simpa using hx) (by simpa using hp)]
theorem AQ: ∀(l:List bf) (j:Nat),j < l.length * 3→(l.map jc).flatten[j]? =(jc (l.getD (j / 3) ac0))[j % 3]?
 | [],j,h=>by simp at h
 | a :: l,j,h=>by
  rw [List.map_cons,List.flatten_cons]
  by_cases hj:j < 3
  ·rw [List.getElem?_append_left (by rw [encA_len];exact hj),show j / 3=0 by omega,show j % 3=j by omega]
   rfl
  ·have h':j - 3 < l.length * 3:=by simp at h;omega
   rw [b₆ (by rw [encA_len];omega),encA_len,AQ l (j - 3) h',show j / 3=(j - 3) / 3 + 1 by omega,show (j - 3) % 3=j % 3 by omega]
   rfl
theorem u7 (d:Array bf):(Go.Sort.flatK jc 3 d).toList=(d.toList.map jc).flatten:=by
 apply c₆;intro j;have hl:(d.toList.map jc).flatten.length=d.size * 3:=by
  rw [wR (fun p hp=>by obtain⟨a,_,rfl⟩:=c₃.1 hp;rfl),c₀,Array.length_toList]
 by_cases hj:j < d.size * 3
 ·rw [AQ _ _ (by rw [Array.length_toList];exact hj),Array.getElem?_toList,Array.getElem?_eq_getElem (by rw [size_flatK];exact hj)];have h1:=get_flatK jc 3 d j hj;rw [getElem!_pos _ _ (by rw [size_flatK];exact hj)] at h1;rw [h1];have h2:d[j / 3]! =d.toList.getD (j / 3) ac0:=by
   rw [getElem!_pos _ _ om,List.getD_eq_getElem?_getD,Array.getElem?_toList,Array.getElem?_eq_getElem om];rfl
  rw [h2,List.getElem?_eq_getElem (by rw [encA_len];omega),getElem!_pos _ _ (by rw [encA_len];omega)]
 ·rw [b₄ (by rw [Array.length_toList,size_flatK];omega),b₄ (by rw [hl];omega)]
theorem FK {w:World} {g:Nat} {cur:Array Value} {ty:TypeId} (hg:w.heap[g]? =some (.cells cur ty (0,0))) (F:Array Value) (hF:F.size≤cur.size) :
  ∃row:Array Value,row.size=cur.size∧F.toList <+:row.toList∧putRow id w g 0 F=w.setRow g row:=by
 refine⟨putCells id 0 F cur,by simp [putCells],?_,?_⟩
 ·rw [List.prefix_iff_eq_take]
  apply c₆
  intro j
  rw [List.getElem?_take,Array.length_toList]
  split
  ·rename_i hj
   rw [Array.getElem?_toList,Array.getElem?_toList,Array.getElem?_eq_getElem hj,Array.getElem?_eq_getElem (by simp [putCells];omega)]
   simp [putCells,hj]
  ·rename_i hj
   rw [b₄ (by rw [Array.length_toList];omega)]
 ·unfold putRow
  rw [mapBlock_congr w g _ (fun _=>putCells id 0 F cur) (fun c e fr h=>by rw [hg] at h;injection h with h;injection h with h;rw [h])]
  unfold mapBlock World.setRow
  congr 1
def u9 (P:Program) (f g1:FuncId):Prop:= ∀(g cap:Nat) (d:Array bf) (w:World),HoldsK jc 3 w g 0 d→g < w.heap.size→d.size < 4611686018427387904→
 Calls P f #[.slice (some ⟨g,0,none⟩) d.size cap, .func (.func g1) #[] #[]] w fun e w'=>e= .returned (.tuple #[])∧∃d' n os,PermIn 0 d.size d d'∧SortedIn (ltOf fun x y:bf=>jy x.name y.name) 0 d.size d'∧w'=sortWorldK jc 3 w g 0 n d' os
theorem nB (a b:bf):ltOf (fun x y:bf=>jy x.name y.name) a b=Op.bytesLess a.name b.name:=by
 unfold ltOf;have:=yh a.name b.name;cases h:Op.bytesLess a.name b.name with
 | true=>exact decide_eq_true (this.2 h)
 | false=>exact decide_eq_false fun hh=>by rw [this.1 hh] at h;cases h
theorem AR {l:List bf} {d':Array bf} (hp:PermIn 0 l.toArray.size l.toArray d') (hs:SortedIn (ltOf fun x y:bf=>jy x.name y.name) 0 l.toArray.size d'):d'.toList.Perm l∧d'.toList.Pairwise (fun a b=>Op.bytesLess b.name a.name=false):=by
 obtain⟨h1,_,h3⟩:=hp;have e1:d'.extract 0 l.toArray.size=d':=by rw [← h1];exact Array.extract_size
 have e2:l.toArray.extract 0 l.toArray.size=l.toArray:=Array.extract_size;rw [e1,e2] at h3;refine⟨h3,List.pairwise_iff_getElem.2 fun i j hi hj hij=>?_⟩;rw [Array.length_toList] at hi hj;have:=hs i j (a₄ _) hij om;rw [nB,getElem!_pos d' j hj,getElem!_pos d' i hi] at this;exact this
theorem Nd {w:World} {P:bT} {adr:fV} {f:FuncId} {v:Value} (h:aK w P adr (.fn f []) v):v= .func (.func f) #[] #[] :=by
 cases h with
 | val cs h=>
  cases h with
  | fn parts hp hr=>
   match parts,hp with
   | [],_=>rfl
theorem FL (hS:u9 Tryz.prog 75 76) (l l':List bf) (hn0:l≠ []) (hl:l.length≤100000) (hd:l.Pairwise (fun a b=>a.name≠b.name)) (hs:ei l') (hp:l'.Perm l) :
    aQ Tryz.prog G 75 [.ms 0 3 0 l.length, .fn 76 []] [(0,di l)] 1 (.tup []) [(0,di l')] 1:=by
  have hlen0:0 < l.length:=List.length_pos_iff.2 hn0
  intro w P adr vals hg hI hn hL hargs
  cases hargs with | cons a1 hargs=>cases hargs with | cons a2 hargs=>
  cases hargs
  have e2:=Nd a2
  subst e2
  rcases a1.ms_ with ⟨_,_,h0⟩ | ⟨g,o,cap,hg1,rfl,ho,hcap,hcm,cur0,ty0,hw0,hsz0⟩
  · omega
  have ho:o=0:=by simpa using ho (.inr rfl)
  subst ho
  have hsz0:=hsz0 rfl
  rcases hI.blk 0 (di l) rfl with ⟨_,h2,_⟩ | ⟨g',h1,h2⟩
  · have:(di l).l.length=0:=by rw [h2];rfl
    rw [show (di l).l.length=l.length from c₀ _] at this
    omega
  rw [hg1] at h1
  injection h1 with h1
  subst h1
  obtain⟨cur,Q,hw,hQl,hQ3,hQr,hQp⟩:=h2.ofR rfl
  rw [hw0] at hw
  injection hw with hw
  injection hw with hw ht
  subst hw
  subst ht
  have hQe:Q=l.map jc:=wU hQl hQr
  subst hQe
  have hpg: ∀o,¬ P g o:=fun o ho=>absurd (h2.pe o ho) (Nat.not_lt_zero _)
  have hH:HoldsK jc 3 w g 0 l.toArray:=fun j hj=>by
    rw [size_flatK] at hj
    have h1:(Go.Sort.flatK jc 3 l.toArray).toList[j]? =some (Go.Sort.flatK jc 3 l.toArray)[j]! :=by
      rw [Array.getElem?_toList,Array.getElem?_eq_getElem (by rw [size_flatK];exact hj),getElem!_pos _ _ (by rw [size_flatK];exact hj)]
    rw [u7] at h1
    refine⟨?_,by simp [World.frozen?,hw0]⟩
    rw [a₇]
    exact uZ hw0 hQp h1
  have hlt:g < w.heap.size:=(Array.getElem?_eq_some_iff.1 hw0).1
  refine(hS g cap l.toArray w hH hlt (by simp;omega)).mono ?_
  rintro e w' ⟨rfl,d',m,os,hpm,hst,rfl⟩
  obtain⟨k1,k2⟩:=AR hpm hst
  have hl':d'.toList=l':=AM (vD k1 hd k2) hs (k1.trans hp.symm)
  have hds:d'.size=l.length:=hpm.1
  obtain⟨row,hr1,hr2,hr3⟩:=FK (w:=Sort.ahead w m) (g:=g) hw0 (Go.Sort.flatK jc 3 d') (by rw [size_flatK,hds,hsz0];exact Nat.mul_le_mul_right 3 hcap)
  unfold sortWorldK putRowK
  rw [hr3]
  rw [u7,hl'] at hr2
  have hka:bG w (Sort.ahead w m) P P adr adr:=⟨fun _ _ h=>h,fun _ _ _=>rfl,fun _ _ h=>h,fun _ _ cur _ _ h=>⟨cur,h,rfl⟩⟩
  have hIa:aX (Sort.ahead w m) P adr (aO (fun _=>none) 0 (di l)):=by
    refine⟨fun c b hc=>?_,fun c c' b b' g hc hc'=>hI.inj c c' b b' g ?_ ?_,hI.prot⟩
    · by_cases e:c=0
      · subst e
        rw [aH] at hc
        injection hc with hc
        subst hc
        exact .inr ⟨g,hg1,h2.keep hka rfl fun _ h=>h⟩
      · rw [aJ _ _ e] at hc;cases hc
    all_goals
      first
        | (by_cases e:c=0
           · subst e;rw [aH] at hc;exact hc
           · rw [aJ _ _ e] at hc;cases hc)
        | (by_cases e:c'=0
           · subst e;rw [aH] at hc';exact hc'
           · rw [aJ _ _ e] at hc';cases hc')
  have hl3:l'.length=l.length:=hp.length_eq
  obtain⟨j1,j2⟩:=hIa.write (c:=0) (g:=g) (b:=di l) (b':=di l') (cur:=cur0) (cur':=row) (by show(l.map aT).length≤(l'.map aT).length;simp;omega) (aH _ _ _) hg1 rfl rfl rfl hw0 hr1 (fun o ho=>absurd ho (hpg o)) (parts:=l'.map jc) (by show(l'.map jc).length=(l'.map aT).length;simp) (fun p hp=>by obtain⟨a,_,rfl⟩:=c₃.1 hp;rfl) (fun j x p hx hp=>by
    have hx:(l'.map aT)[j]? =some x:=hx
    rw [List.getElem?_map] at hx hp
    cases hj:l'[j]? with
    | none=>rw [hj] at hx;cases hx
    | some a=>
      rw [hj] at hx hp
      injection hx with hx
      injection hp with hp
      subst hx hp
      exact K6 _ _ _ _) hr2
  have hb:Below ((Sort.ahead w m).setRow g row).heap.size ((Sort.ahead w m).setRow g row) (grow ((Sort.ahead w m).setRow g row) os):=
    ⟨rfl,rfl,rfl,sm,fun k hk=>by
      show((((Sort.ahead w m).setRow g row).heap ++ os))[k]? =_
      rw [Array.getElem?_append_left hk]⟩
  have e0:aO (aO (fun _=>none) 0 (di l)) 0 (di l')=aO (fun _=>none) 0 (di l'):=by
    funext x
    by_cases e:x=0
    · subst e;rw [aH,aH]
    · rw [aJ _ _ e,aJ _ _ e,aJ _ _ e]
  rw [e0] at j1
  have hkb:=bG.below' (adr:=adr) j1.prot hb
  have j3:aX (grow ((Sort.ahead w m).setRow g row) os) P adr (aO (fun _=>none) 0 (di l')):=by
    refine⟨fun c b hc=>?_,j1.inj,fun b o h=>c₄ (j1.prot b o h) hb.size⟩
    rcases j1.blk c b hc with h | ⟨g',h,h'⟩
    · exact .inl h
    · exact .inr ⟨g',h,h'.keep hkb (hb.block _ h'.lt) fun _ h=>h⟩
  refine⟨_,rfl,P,adr,j3.sub fun c b hc=>?_, .tup [] rfl (fun j m u hm=>by simp at hm),(hka.trans j2).trans hkb,fun _ _=>rfl,hn,fun c g hc=> .inr ⟨c,hc⟩,fun b o ho=> .inl ho,?_⟩
  · rw [VM.get_cons] at hc
    by_cases e:c=0
    · subst e
      rw [aH]
      exact hc
    · rw [if_neg (Ne.symm e)] at hc
      cases hc
  · have hs:=wT (w:=Sort.ahead w m) (ex:=fun b=> ∃c0,adr c0=some b) (g:=g) row ⟨0,hg1⟩
    refine⟨rfl,rfl,rfl,Nat.le_trans hs.size hb.size,fun b hb1 hne=>?_⟩
    have hb2:b < ((Sort.ahead w m).setRow g row).heap.size:=c₄ hb1 hs.size
    exact(hb.block b hb2).trans (hs.block b hb1 hne)
end
section
variable {G:GS}
attribute [local irreducible] ak aB aD aI aN vC aW aw
theorem K7:aE Tryz.prog G 189 [.int .u64 0] (.int .i64 0):=by
 refine bA seat Tryz.func189 25 ?_;refine aa ?_;refine au ?_;rfl
theorem Oh:aE Tryz.prog G 125 [.int .u64 0] (.int .i64 0):=by
 have c1:=K7 (G:=G);refine bA seat Tryz.func125 8 ?_;refine aa ?_;refine dL (c1) ?_;refine au ?_;rfl
theorem Oi:aQ Tryz.prog G 180 [.ms 0 3 0 0, .int .i64 0, .int .i64 0, .fn 76 []] [(0,di [])] 1 (.tup []) [(0,di [])] 1:=by
 unfold di;refine dw seat Tryz.func180 53 ?_;refine aa ?_;refine av Unit (fun _=> [(8, .int .i64 1),(2, .int .i64 0)]) (fun _=> [(0,⟨91,3,true,0,([] :List bf).map aT⟩)]) 1 (fun _=>True) (fun _=>0) () trivial (vm [] []) ?_;rintro⟨⟩ -;try dsimp only
 refine aa ?_;exact en []
theorem Oj:aQ Tryz.prog G 124 [.ms 0 3 0 0, .int .i64 0, .int .i64 0, .int .i64 0, .fn 76 []] [(0,di [])] 1 (.tup []) [(0,di [])] 1:=by
 have c1:=Oi (G:=G);unfold di at *;refine dw seat Tryz.func124 148 ?_;refine aa ?_;refine av Unit (fun _=> [(0, .ms 0 3 0 0),(1, .int .i64 0),(2, .int .i64 0),(4, .fn 76 [])]) (fun _=> [(0,⟨91,3,true,0,([] :List bf).map aT⟩)]) 1 (fun _=>True) (fun _=>0) () trivial (vm [] []) ?_;rintro⟨⟩ -;try dsimp only
 refine aa ?_;refine yc (c1) [(0,0)] ?_;refine aa ?_;exact en []
theorem FN:aQ Tryz.prog G 75 [.ms 0 3 0 0, .fn 76 []] [(0,di [])] 1 (.tup []) [(0,di [])] 1:=by
 have c1:=Oj (G:=G);have c2:=Oh (G:=G);unfold di at *;refine dw seat Tryz.func75 14 ?_;refine aa ?_;refine dL (c2) ?_;refine yc (c1) [(0,0)] ?_;refine aa ?_;exact en []
theorem Nf (hS:u9 Tryz.prog 75 76) (l l':List bf) (hl:l.length≤100000) (hd:l.Pairwise (fun a b=>a.name≠b.name)) (hs:ei l') (hp:l'.Perm l) :
  aQ Tryz.prog G 75 [.ms 0 3 0 l.length, .fn 76 []] [(0,di l)] 1 (.tup []) [(0,di l')] 1:=by
 by_cases h:l= []
 ·subst h
  have e:=List.perm_nil.1 hp
  subst e
  exact FN
 ·exact FL hS l l' h hl hd hs hp
end
section
variable {G:GS}
attribute [local irreducible] ak aB aD aI aN vC aW aw
def ym (ks:List (List UInt8)):MV:= .mpv (ks.map .str) (a₀ ks.length (.st []))
theorem FO (n i:Nat):setL (a₀ n (MV.st [])) i (.st [])=a₀ n (.st []):=by
 rw [setL_eq];apply List.ext_getElem
 ·simp
 ·intro k h1 h2;simp [List.getElem_set]
theorem FP {Pg:Program} {E:VE} {M:VM} {o:Oper} {x:Operand} {t k e:TypeId} {c:Nat} {b:MB} {ks vs:List MV} (ho:o.op= .call ⟨.builtin .len, #[x], #[t]⟩) (hx:iV (VE.get E) x=some (.mp c)) (hc:VM.get M c=some b) (hb:b.l= [.mpv ks vs]) (hu:Pg.underlying t=some (.map k e)) (hl:vs.length=ks.length):qD Pg E M o=some ks.length:=by
 unfold qD;rw [ho];dsimp only;rw [hx];dsimp only;rw [hc];dsimp only;rw [hb];dsimp only;rw [hu];dsimp only;rw [if_pos hl]
theorem K8 (l:dK) (t:je) (hl:l.acs.length≤100000) (hs:ei l.acs) (ht:iL t):aE Tryz.prog G 137 [eh l,nP t] (.int .i64 (hX l.acs t.trs []).length):=by
 obtain⟨snd,seq,gas,fee,memo,trs⟩:=t;obtain⟨h1,h2,h3,h4,h5,h6,h7⟩:=ht;dsimp only at h1 h2 h3 h4 h5 h6 h7;have cp:=fun nm=>AK (G:=G) l nm hl hs
 obtain⟨acs,col⟩:=l;dsimp only at hl hs cp ⊢;generalize hR:hX acs trs [] =R;unfold eh at cp;unfold eh nP;dsimp only at cp ⊢;refine bA seat Tryz.func137 34 ?_;refine aa ?_;refine av (Nat×List (List UInt8)) (fun x=> [(14, .int .i64 x.1),(13, .int .i64 trs.length),(12, .sl trs.length (trs.map lC)),(5, .mp 2),(2, .ptr 0 2 0 0 [])]) (fun x=> [(0,⟨33,2,false,0,[.st [.sl acs.length (acs.map aT), .int .u64 col]]⟩),(2,⟨132,0,false,0,[ym x.2]⟩)]) 3 (fun x=>x.1≤trs.length∧x.2.length≤x.1∧hX acs (trs.drop x.1) x.2=R) (fun x=>trs.length - x.1) (0,[]) ⟨a₄ _,a₅ _,by rw [b₃];exact hR⟩ (by dsimp only;exact(vm [(0,_),(2,_)] [])) ?_;clear hR;rintro⟨k,ks⟩ ⟨hk,hks,hR⟩;unfold ym;try dsimp only
 dsimp only at hk hks hR;refine aa ?_;refine ad rfl ?_ ?_ <;> intro h
 ·have hk':k < trs.length:=by have:=ot h;omega
  have hel:=ll hk';rw [a₃ hk',hX] at hR;have c1:=cp trs[k].to_;generalize trs[k] =x at *;obtain⟨to_,amt⟩:=x;dsimp only at c1 hR;replace hel:bF (trs.map lC) trs.length (k:Int)=some (.st [.str to_, .int .u64 amt]):=hel;have hel:=aj.mk hel;generalize posA to_ acs=pp at *;cases hb:(bz acs to_).2 with
  | true=>
   rw [hb] at c1 hR;rw [if_pos rfl] at hR;refine aa ?_;refine dL (c1) ?_;exact⟨(k + 1,ks),⟨dm,dm,hR⟩,dm,(by dsimp only;exact(vm [(0,_),(2,_)] []))⟩
  | false=>
   rw [hb] at c1 hR;rw [if_neg sm] at hR;unfold FE at hR;by_cases hm:to_∈ks
   ·rw [if_pos hm] at hR;obtain⟨j,hj,hjl⟩:=rB (i:=0) hm;have hj:=aj.mk hj;have hz:=bE.mk (show(a₀ ks.length (MV.st [])).length=(ks.map MV.str).length by simp);have hv:=aU.mk (show [MV.mpv (ks.map MV.str) (setL (a₀ ks.length (MV.st [])) (0 + j) (.st []))] = [MV.mpv (ks.map MV.str) (a₀ ks.length (.st []))] by rw [FO]);refine aa ?_;refine dL (c1) ?_;exact⟨(k + 1,ks),⟨dm,dm,hR⟩,dm,(by dsimp only;exact(vm [(0,_),(2,_)] []))⟩
   ·rw [if_neg hm] at hR;have hj:=aj.mk (uW (i:=0) hm);have hz:=bE.mk (show(a₀ ks.length (MV.st [])).length=(ks.map MV.str).length by simp);have hv:=aU.mk (show [MV.mpv (ks.map MV.str ++ [.str to_]) (a₀ ks.length (MV.st []) ++ [.st []])] = [MV.mpv ((ks ++ [to_]).map MV.str) (a₀ (ks ++ [to_]).length (.st []))] by rw [a₉,b₂,b₀,c₂];rfl);refine aa ?_;refine dL (c1) ?_;exact⟨(k + 1,ks ++ [to_]),⟨dm,by simp;omega,hR⟩,dm,(by dsimp only;exact(vm [(0,_),(2,_)] []))⟩
 ·have hk':k=trs.length:=by have:=oF h;omega
  subst hk';rw [a₈,hX] at hR;subst hR;refine aa ?_;refine L5 (k:=ks.length) ?_ rfl ?_
  ·refine Eq.trans (FP (ks:=ks.map MV.str) (vs:=a₀ ks.length (.st [])) (b:=⟨132,0,false,0,[.mpv (ks.map MV.str) (a₀ ks.length (.st []))]⟩) (c:=2) (k:=9) (e:=134) (t:=132) (x:= .tmp 32) ?_ ?_ ?_ rfl (by kernel_rfl) sm) (congrArg some (c₀ _));all_goals rfl
  refine aa ?_;refine au ?_;rfl
end
section
variable {G:GS}
attribute [local irreducible] ak aB aD aI aN vC aW aw
theorem I6 (l:List bf) (col:Nat) (hc:bo col) (hl:l.length≤100000) (hs: ∀a∈l,bo a.bal):aQ Tryz.prog G 74 [.st [.ms 0 3 0 l.length, .int .u64 col]] [(0,di l)] 1 (.tup [.int .u64 (totS l col).1, .bool (totS l col).2]) [(0,di l)] 1:=by
 have cs:=Cj (G:=G) (col :: l.map (·.bal)) (by simp;omega) (by
  intro a ha;rcases List.mem_cons.1 ha with rfl | ha
  ·exact hc
  ·obtain⟨x,hx,rfl⟩:=c₃.1 ha;exact hs x hx)
 rw [AG l hc] at cs;generalize totS l col=p at *;obtain⟨v,b⟩:=p;dsimp only at cs ⊢;have hzl:(col :: l.map (·.bal)).length=l.length + 1:=sm;unfold di;refine dw seat Tryz.func74 27 ?_;refine aa ?_;refine av Nat (fun k=> [(13, .int .i64 k),(12, .int .i64 l.length),(11, .ms 0 3 0 l.length),(4, .ms 1 1 0 (k + 1))]) (fun k=> [(0,⟨91,3,true,0,l.map aT⟩),(1,⟨23,1,true,0,fq (col :: (l.take k).map (·.bal))⟩)]) 2 (fun k=>k≤l.length) (fun k=>l.length - k) 0 (a₄ _) (by rw [List.take_zero];exact(vm [(1,_)] [])) ?_;intro k hk;try dsimp only
 refine aa ?_;refine ad rfl ?_ ?_ <;> intro h
 ·have hk':k < l.length:=by have:=ot h;omega
  have hel:=Nc hk';have hsucc:=uT col l hk';have hll:(fq (col :: (l.take k).map (·.bal))).length=k + 1:=by simp [fq];omega
  generalize l[k] =x at *;obtain⟨nm,bal,seq⟩:=x;dsimp only at hsucc;replace hel:bW (l.map aT) (0 + k)=some (.st [.str nm, .int .u64 bal, .int .u64 seq]):=hel;have hel:=aj.mk hel;refine aa ?_;refine aL rfl rfl (by intro R hR;refine cI hR ?_;(refine a₁ (a₅ _) ?_;refine⟨_,rfl,?_⟩;refine a₁ ⟨hll,ai (by kernel_rfl) pf⟩ ?_;refine⟨fq (col :: (l.take (k + 1)).map (·.bal)),sv (by rw [hsucc];rfl),k + 1 + 1,sv pf,?_⟩);exact hR) rfl ?_;refine aa ?_;exact⟨k + 1,by show k + 1≤l.length;omega,by show l.length - (k + 1) < l.length - k;omega,(by dsimp only;exact(vm [(1,_)] []))⟩
 ·have hk':k=l.length:=by have:=oF h;omega
  subst hk';rw [c₇];have hlen:l.length=l.length:=rfl;generalize hZ:col :: l.map (·.bal)=Z at *;rw [← hzl];refine aa ?_;refine bX rfl aA rfl (du cs) rfl [(1,Z.length)] ⟨(by show Z.length≤(fq Z).length;simp [fq]),trivial⟩ lm ?_;refine aa ?_;exact en [_,_]
theorem K9 (hS:u9 Tryz.prog 75 76) (l:List bf) (hl:l.length≤100000) (hsm: ∀a∈l,qS a):aQ Tryz.prog G 45 [.sl l.length (l.map aT)] [] 0 (.tup [eh (jB l).1, .int .i64 (jB l).2]) [] 0:=by
 generalize hQ:jB l=Q;obtain⟨⟨Ql,Qc⟩,Qe⟩:=Q;unfold jB at hQ;unfold eh;dsimp only;by_cases hn:256 < l.length
 ·rw [if_pos hn] at hQ;simp only [lg0,a₂,dK.mk.injEq] at hQ;obtain⟨⟨rfl,rfl⟩,rfl⟩:=hQ;refine dw seat Tryz.func45 57 ?_;refine aa ?_;refine ad rfl ?_ ?_ <;> intro h
  ·have _h0:=h;refine aa ?_;refine au ?_;refine⟨[_,_],[],[],rfl,rfl,trivial,rfl,⟨?_,?_,trivial⟩,?_⟩
   ·exact .inr ⟨_,rfl,lm⟩
   ·exact rv
   ·exact mm
  ·exact absurd (oF h) om
 rw [if_neg hn] at hQ;have hg2:(i6 l []).2=sn l [] :=Ck l [] [] List.Pairwise.nil (fun nm=>by simp [bz]);have hg1:=Cl l [] List.Pairwise.nil;have hgn:=uX l [];generalize hv:i6 l [] =v at *;obtain⟨vl,ve⟩:=v;dsimp only at hQ hg1 hg2;subst hg2;have ct:=I6 (G:=G) l 0 (by unfold bo;omega) hl (fun a ha=>(hsm a ha).2.1);have co:=AJ (G:=G) ⟨l,0⟩ dm;unfold eh at co;dsimp only at co;generalize hK:sn l [] =e at *;refine dw seat Tryz.func45 57 ?_;refine aa ?_;refine ad rfl ?_ ?_ <;> intro h
 ·exact absurd (ot h) om
 refine aa ?_;refine av (Nat×List (List UInt8)) (fun x=> [(19, .int .i64 x.1),(18, .int .i64 l.length),(17, .sl l.length (l.map aT)),(4, .mp 1),(2, .ptr 0 2 0 0 []),(0, .sl l.length (l.map aT))]) (fun x=> [(0,⟨33,2,false,0,[.st [.nils, .int .u64 0]]⟩),(1,⟨132,0,false,0,[ym x.2]⟩)]) 2 (fun x=>x.1≤l.length∧x.2.length≤x.1∧sn (l.drop x.1) x.2=e) (fun x=>l.length - x.1) (0,[]) ⟨a₄ _,a₄ _,by rw [b₃];exact hK⟩ (by dsimp only;exact(vm [(0,_),(1,_)] [])) ?_;rintro⟨k,ks⟩ ⟨hk,hks,hR⟩;unfold ym;try dsimp only
 dsimp only at hk hks hR;refine aa ?_;refine ad rfl ?_ ?_ <;> intro h
 ·have hk':k < l.length:=by have:=ot h;omega
  have hel:=eZ hk';have hsa:=hsm _ (b₁ hk');have c1:=sF (G:=G) l[k].name (by have:=hsa.1;omega);rw [a₃ hk',sn] at hR;generalize l[k] =a at *;obtain⟨nm,bal,seq⟩:=a;replace hel:bF (l.map aT) l.length (k:Int)=some (.st [.str nm, .int .u64 bal, .int .u64 seq]):=hel;have hel:=aj.mk hel;dsimp only at hR c1;by_cases hnm:dS nm=false
  ·rw [hnm] at c1;rw [if_pos hnm] at hR;subst hR;rw [if_pos om] at hQ;simp only [lg0,a₂,dK.mk.injEq] at hQ;obtain⟨⟨rfl,rfl⟩,rfl⟩:=hQ;refine aa ?_;refine dL (c1) ?_;refine au ?_;refine⟨[_,_],[],[],rfl,rfl,trivial,rfl,⟨?_,?_,trivial⟩,?_⟩
   ·exact .inr ⟨_,rfl,lm⟩
   ·exact rv
   ·exact mm
  rw [if_neg hnm] at hR;have hnm:dS nm=true:=by simpa using hnm
  rw [hnm] at c1;have hz:=bE.mk (show(a₀ ks.length (MV.st [])).length=(ks.map MV.str).length by simp);by_cases hm:nm∈ks
  ·rw [if_pos hm] at hR;subst hR;rw [if_pos om] at hQ;simp only [lg0,a₂,dK.mk.injEq] at hQ;obtain⟨⟨rfl,rfl⟩,rfl⟩:=hQ;obtain⟨j,hj,hjl⟩:=rB (i:=0) hm;have hj:=aj.mk hj;have hu:=aj.mk (show bW (a₀ ks.length (MV.st [])) (0 + j)=some (MV.st []) by rw [bS,a₇];simp [hjl]);refine aa ?_;refine dL (c1) ?_;refine au ?_;refine⟨[_,_],[],[],rfl,rfl,trivial,rfl,⟨?_,?_,trivial⟩,?_⟩
   ·exact .inr ⟨_,rfl,lm⟩
   ·exact rv
   ·exact mm
  ·rw [if_neg hm] at hR;have hj:=aj.mk (uW (i:=0) hm);have hv:=aU.mk (show [MV.mpv (ks.map MV.str ++ [.str nm]) (a₀ ks.length (MV.st []) ++ [.st []])] = [MV.mpv ((ks ++ [nm]).map MV.str) (a₀ (ks ++ [nm]).length (.st []))] by rw [a₉,b₂,b₀,c₂];rfl);refine aa ?_;refine dL (c1) ?_;exact⟨(k + 1,ks ++ [nm]),⟨dm,by simp;omega,hR⟩,dm,(by dsimp only;exact(vm [(0,_),(1,_)] []))⟩
 ·have hk':k=l.length:=by have:=oF h;omega
  subst hk';rw [a₈,sn] at hR;subst hR;rw [if_neg sm] at hQ;obtain⟨hs1,hs2⟩:=hg1 rfl;rw [List.nil_append] at hs2;have hd:=(hgn rfl).1;have cs:=Nf (G:=G) hS l vl hl hd hs1 hs2;rw [← wQ hs2.symm] at hQ;have hvl:=hs2.length_eq;unfold di at co ct cs;generalize totS l 0=p at *;obtain⟨tot,ok⟩:=p;dsimp only at ct hQ;refine aa ?_;refine yc (co) [] ?_;refine aa ?_;refine yc (ct) [(0,5)] ?_;refine aa ?_;cases ok with
  | false=>
   rw [if_pos rfl] at hQ;simp only [lg0,a₂,dK.mk.injEq] at hQ;obtain⟨⟨rfl,rfl⟩,rfl⟩:=hQ;refine aa ?_;refine au ?_;refine⟨[_,_],[],[],rfl,rfl,trivial,rfl,⟨?_,?_,trivial⟩,?_⟩
   ·exact .inr ⟨_,rfl,lm⟩
   ·exact rv
   ·exact mm
  | true=>
   rw [if_neg sm] at hQ;simp only [a₂,dK.mk.injEq] at hQ;obtain⟨⟨rfl,rfl⟩,rfl⟩:=hQ;refine aa ?_;refine yc (cs) [(0,5)] ?_;refine aa ?_;refine au ?_;rw [← hvl];refine⟨[_,_],[],[(5,vl.length)],rfl,rfl,?_,rfl,⟨?_,?_,trivial⟩,?_⟩
   ·exact⟨by show vl.length≤(vl.map aT).length;simp,trivial⟩
   ·exact .inr ⟨_,rfl,lm⟩
   ·exact rv
   ·exact mm
end
section
open Go.RowKit Go.Lib
variable {G:GS}
attribute [local irreducible] ak aB aD aI aN vC aW aw
theorem Cm (l:List bf) (a:bf) (hl:l.length≤100000):aQ Tryz.prog G 139 [.ms 0 3 0 l.length, .int .i64 l.length, .ms 1 3 0 1] [(0,di l),(1,di [a])] 2 (.ms 2 3 0 (l.length + 1)) [(2,di (l ++ [a]))] 3:=by
 have hb:=aj.mk (fW (κ:= .i64) (a₅ l.length));unfold di;refine dw seat Tryz.func139 95 ?_;refine aa ?_;refine ad rfl ?_ ?_ <;> intro h
 ·refine aa ?_;refine aL rfl rfl (by intro R hR;refine cI hR ?_;(refine a₁ (a₅ _) ?_;refine⟨_,rfl,?_⟩;refine a₁ ⟨sm,ai (by kernel_rfl) pf⟩ ?_;refine⟨(l ++ [a]).map aT,sv (by rw [a₉];rfl),l.length + 1,sv pf,?_⟩);exact hR) rfl ?_;refine aa ?_;exact eb [_] [(2,19)] []
 ·rw [beq_self_eq_true] at h;cases h
theorem I7 (l:List bf) (a:bf) (i:Nat) (hi:i≤l.length) (hl:l.length≤100000):aQ Tryz.prog G 139 [.ms 0 3 0 l.length, .int .i64 i, .ms 1 3 0 1] [(0,di l),(1,di [a])] 2 (.ms 2 3 0 (l.length + 1)) [(2,di (l.take i ++ a :: l.drop i))] 3:=by
 by_cases h:i < l.length
 ·exact FJ l a i h hl
 ·have e:i=l.length:=om;subst e;rw [c₇,a₈];exact Cm l a hl
end
section
variable {G:GS}
attribute [local irreducible] ak aB aD aI aN vC aW aw
theorem I8 (l:dK) (price:Nat) (t:je) (size:Nat) (hl:eN l) (hs:ei l.acs) (ht:iL t) (hp:bo price) (hz:size≤1000000000):aE Tryz.prog G 87 [eh l, .int .u64 price,nP t, .int .i64 size] (.int .i64 (ga l price t size)):=by
 have cc:=DB (G:=G) t ht;have cf:=K8 (G:=G) l t (by have:=hl.1;omega) hs ht;have c1:=AK (G:=G) l t.sender (by have:=hl.1;omega) hs;have hdl:(bz l.acs t.sender).2=true→(iC l t (eW t).1).acs.length=l.acs.length + (hX l.acs t.trs []).length:=I1 hs;have hfl:=uV l.acs t.trs [];have hpos:=eM (nm:=t.sender) hs;have hple:=lz t.sender l.acs;generalize hr:ga l price t size=R;unfold ga at hr;generalize iC l t (eW t).1=D at *;generalize eW t=cst at *;obtain⟨cv,cb⟩:=cst;obtain⟨acs,col⟩:=l;obtain⟨snd,seq,gas,fee,memo,trs⟩:=t;obtain⟨h1,h2,h3,h4,h5,h6,h7⟩:=ht;obtain⟨hl1,hl2,hl3⟩:=hl;obtain⟨dacs,dcol⟩:=D;dsimp only at h1 h2 h3 h4 h5 h6 h7 hl1 hl2 hl3 hr cc cf c1 hdl hpos hs hple;dsimp only [List.length_nil] at hfl;have cu:=KZ (G:=G) (size:Int) (trs.length:Int) om om;have cn:=KY (G:=G) gas price h3 hp;have hul:mz (size:Int) (trs.length:Int) < 18446744073709551616:=by unfold mz limS;omega
 generalize mz (size:Int) (trs.length:Int)=us at *;generalize kx gas price=mu at *;obtain⟨mv,mb⟩:=mu;generalize (hX acs trs []).length=fr at *;generalize posA snd acs=pp at *;generalize bz acs snd=g at *;obtain⟨⟨gn,gb,gs⟩,gok⟩:=g;dsimp only at c1 cn hr hdl hpos;unfold nP eh at *;dsimp only at *;cases gok with
 | false=>
  rw [if_pos rfl] at hr;refine bA seat Tryz.func87 83 ?_;refine aa ?_;refine dL (c1) ?_;refine au ?_;refine congrArg (MV.int .i64) ?_;(repeat' split at hr) <;> omega
 | true=>
  rw [if_neg sm] at hr;have hdl:=hdl rfl;have hel:acs[pp]? =some ⟨gn,gb,gs⟩:=by
   rcases hpos with ⟨_,h,_⟩ | ⟨h,_⟩
   ·exact h
   ·cases h
  have hppl:pp < acs.length:=(a₆.1 hel).1;have hel:bF (acs.map aT) acs.length (pp:Int)=some (.st [.str gn, .int .u64 gb, .int .u64 gs]):=by
   have h:=eZ hppl;rw [(a₆.1 hel).2] at h;exact h
  have hel:=aj.mk hel;clear hpos;refine bA seat Tryz.func87 83 ?_;refine aa ?_;refine dL (c1) ?_;refine ad rfl ?_ ?_ <;> intro h
  ·have k0: ¬ (gs:Int)=(seq:Int):=by simpa using h
   have k1:gs≠seq:=om;refine aa ?_;refine au ?_;refine congrArg (MV.int .i64) ?_;(repeat' split at hr) <;> omega
  have k0:(gs:Int)=(seq:Int):=by simpa using h
  have k1:gs=seq:=om;refine aa ?_;refine ad rfl ?_ ?_ <;> intro h
  ·have k2:(gs:Int)=18446744073709551615:=by simpa using h
   refine aa ?_;refine au ?_;refine congrArg (MV.int .i64) ?_;(repeat' split at hr) <;> omega
  have k2: ¬ (gs:Int)=18446744073709551615:=by simpa using h
  refine aa ?_;refine al [ae 0,ae 1,ae 2,ae 3,ae 4,ae 5,dj 6,ae 7,ae 8] ?_;refine aa ?_;refine cW (cu) ?_;refine ad rfl ?_ ?_ <;> intro h
  ·have k3:=ot h;refine aa ?_;refine au ?_;refine congrArg (MV.int .i64) ?_;(repeat' split at hr) <;> omega
  have k3:=oF h;refine aa ?_;refine dL (cn) ?_;cases mb with
  | false=>
   rw [if_neg om,if_neg om,if_neg om,if_pos rfl] at hr;refine aa ?_;refine au ?_;refine congrArg (MV.int .i64) ?_;(repeat' split at hr) <;> omega
  | true=>
   rw [if_neg om,if_neg om,if_neg om,if_neg sm] at hr;refine aa ?_;refine ad rfl ?_ ?_ <;> intro h
   ·have k4:=ot h;rw [if_pos om] at hr;refine aa ?_;refine au ?_;refine congrArg (MV.int .i64) ?_;(repeat' split at hr) <;> omega
   have k4:=oF h;rw [if_neg om] at hr;refine aa ?_;refine dL (cc) ?_;cases cb with
   | false=>
    rw [if_pos rfl] at hr;refine aa ?_;refine au ?_;refine congrArg (MV.int .i64) ?_;(repeat' split at hr) <;> omega
   | true=>
    rw [if_neg sm] at hr;refine aa ?_;refine ad rfl ?_ ?_ <;> intro h
    ·have k5:=ot h;refine aa ?_;refine au ?_;refine congrArg (MV.int .i64) ?_;(repeat' split at hr) <;> omega
    have k5:=oF h;refine aa ?_;refine al [ae 0,ae 1,ae 2,ae 3,ae 4,dj 5,ae 6,ae 7,ae 8] ?_;refine aa ?_;refine cW (cf) ?_;refine ad rfl ?_ ?_ <;> intro h
    ·have k6:=ot h;refine aa ?_;refine au ?_;refine congrArg (MV.int .i64) ?_;(repeat' split at hr) <;> omega
    have k6:=oF h;refine aa ?_;refine au ?_;refine congrArg (MV.int .i64) ?_;(repeat' split at hr) <;> omega
end
section
variable {G:GS}
attribute [local irreducible] ak aB aD aI aN vC aW aw
theorem yn {l:List bf} {k:Nat} {nm:List UInt8} {b s:Nat} (h:l[k]? =some ⟨nm,b,s⟩):bW (l.map aT) (0 + k)=some (.st [.str nm, .int .u64 b, .int .u64 s]):=by rw [bS,Nat.zero_add,List.getElem?_map,h];rfl
theorem yp (l:List bf) (k:Nat) (nm:List UInt8) (b s:Nat):setL (l.map aT) (0 + k) (.st [.str nm, .int .u64 b, .int .u64 s])=(l.set k ⟨nm,b,s⟩).map aT:=by rw [setL_eq,Nat.zero_add,List.map_set];rfl
theorem va {acs:List bf} {a:bf} {nm:List UInt8} (hs:ei acs) (h:(bz acs nm)=(a,true)):a.name=nm∧acs[posA nm acs]? =some a:=by
 rcases eM (nm:=nm) hs with ⟨_,h2,h3⟩ | ⟨h1,_⟩
 ·rw [h] at h2 h3;exact⟨h3,h2⟩
 ·rw [h] at h1;cases h1
theorem La {z:List bf} {x:lh} {b:bf} (hs:ei z) (h:bz z x.to_=(b,true)):gC z x=z.set (posA x.to_ z) ⟨b.name,(b.bal + x.amt) % 18446744073709551616,b.seq⟩:=by
 obtain⟨h1,_⟩:=va hs h;have hp:lq x z=b:=by unfold lq;rw [h];rfl
 unfold gC;rw [hp,mN hs (by dsimp only;rw [h1,h])];dsimp only;rw [h1]
theorem Ng {z:List bf} {x:lh} (hs:ei z) (h:(bz z x.to_).2=false):gC z x=z.take (posA x.to_ z) ++ ⟨x.to_,(0 + x.amt) % 18446744073709551616,0⟩ :: z.drop (posA x.to_ z):=by
 have hp:lq x z=⟨x.to_,0,0⟩:=by unfold lq;rw [h];rfl
 unfold gC;rw [hp,qj hs (by exact h)]
theorem Lb (z:List bf) (a:bf) {p:Nat} (hp:p≤z.length):(z.take p ++ a :: z.drop p)[p]? =some a:=by
 have h:(z.take p).length=p:=by simp [c₁ hp]
 rw [b₆ om,h,Nat.sub_self];rfl
theorem Lc (z:List bf) (a b:bf) {p:Nat} (hp:p≤z.length):(z.take p ++ a :: z.drop p).set p b=z.take p ++ b :: z.drop p:=by
 have h:(z.take p).length=p:=by simp [c₁ hp]
 rw [List.set_append_right _ _ om,h,Nat.sub_self];rfl
theorem Ld (l:dK) (t:je) (hl:eN l) (hs:ei l.acs) (ht:iL t) (hgot:(bz l.acs t.sender).2=true):aQ Tryz.prog G 89 [.st [.ms 0 3 0 l.acs.length, .int .u64 l.col],nP t] [(0,di l.acs)] 1 (eh (iC l t (eW t).1)) [] 1:=by
 have cc:=DB (G:=G) t ht;have hcu:=qT t;obtain⟨acs,col⟩:=l;obtain⟨snd,seq,gas,fee,memo,trs⟩:=t;obtain⟨h1,h2,h3,h4,h5,h6,h7⟩:=ht;obtain⟨hl1,hl2,hl3⟩:=hl;dsimp only at h1 h2 h3 h4 h5 h6 h7 hl1 hl2 hl3 hs hgot ⊢;have cp:=fun (z:List bf) nm (hz:ei z) (hzl:z.length≤100000)=>I0 (G:=G) z col nm hzl hz
 generalize eW ⟨snd,seq,gas,fee,memo,trs⟩=cst at *;obtain⟨cv,cb⟩:=cst;dsimp only at cc hcu ⊢;obtain⟨⟨⟨gn,gb,gs⟩,gok⟩,hg⟩: ∃g,bz acs snd=g:=⟨_,rfl⟩
 rw [hg] at hgot;dsimp only at hgot;subst hgot;obtain⟨hgn,hel⟩:=va hs hg;have hsm:SmAc ⟨gn,gb,gs⟩:=by have:=nv (acs:=acs) (name:=snd) hl3;rwa [hg] at this
 obtain⟨q1,q2,q3⟩:=hsm;dsimp only at hgn q1 q2 q3;unfold bo at q2 q3 hcu h4 hl2;have hppl:posA snd acs < acs.length:=(a₆.1 hel).1;have hdA:jv ⟨acs,col⟩ ⟨snd,seq,gas,fee,memo,trs⟩ cv=⟨gn,(gb + (18446744073709551616 - cv)) % 18446744073709551616,(gs + 1) % 18446744073709551616⟩:=by unfold jv;dsimp only;rw [hg]
 have hz0:fH ⟨gn,(gb + (18446744073709551616 - cv)) % 18446744073709551616,(gs + 1) % 18446744073709551616⟩ acs=acs.set (posA snd acs) ⟨gn,(gb + (18446744073709551616 - cv)) % 18446744073709551616,(gs + 1) % 18446744073709551616⟩:=by
  rw [mN hs (by dsimp only;rw [hgn,hg])];dsimp only;rw [hgn]
 have hsm0: ∀a∈fH ⟨gn,(gb + (18446744073709551616 - cv)) % 18446744073709551616,(gs + 1) % 18446744073709551616⟩ acs,SmAc a:=fun a h=>(ky h).elim (fun e=>e▸⟨q1,mod_u64,mod_u64⟩) (hl3 a)
 have hs0:ei (fH ⟨gn,(gb + (18446744073709551616 - cv)) % 18446744073709551616,(gs + 1) % 18446744073709551616⟩ acs):=qk hs;have e1:=aU.mk (show IntKind.u64.wrap ((gb:Int) - (cv:Int))=(((gb + (18446744073709551616 - cv)) % 18446744073709551616:Nat):Int) by rw [wu64];omega);have e2:=aU.mk (show IntKind.u64.wrap ((gs:Int) + 1)=(((gs + 1) % 18446744073709551616:Nat):Int) by rw [wu64];omega);have e3:=aU.mk (show IntKind.u64.wrap ((col:Int) + (fee:Int))=(((col + fee) % 18446744073709551616:Nat):Int) by rw [wu64];omega);unfold iC;rw [hdA];dsimp only;generalize (gb + (18446744073709551616 - cv)) % 18446744073709551616=nb at *;generalize (gs + 1) % 18446744073709551616=ns at *;generalize (col + fee) % 18446744073709551616=nc at *;have r1:=aj.mk (yn hel);have t1:=yp acs (posA snd acs) gn nb gs;have r2:=yn (show(acs.set (posA snd acs) ⟨gn,nb,gs⟩)[posA snd acs]? =some ⟨gn,nb,gs⟩ by rw [List.getElem?_set_self hppl]);have t2:=yp (acs.set (posA snd acs) ⟨gn,nb,gs⟩) (posA snd acs) gn nb ns;rw [List.set_set,← hz0,← t1] at t2;rw [← t1] at r2;have r2:=aj.mk r2;have hz0l:(fH ⟨gn,nb,ns⟩ acs).length=acs.length:=by rw [hz0,b₅]
 have c1:=cp acs snd hs om;rw [hg] at c1;generalize hR:trs.foldl gC (fH ⟨gn,nb,ns⟩ acs)=R;generalize fH ⟨gn,nb,ns⟩ acs=z0 at *;generalize posA snd acs=pp0 at *;clear hz0 hdA hel hg t1;unfold di at cp c1 ⊢;unfold eh nP at *;dsimp only at *;refine dw seat Tryz.func89 88 ?_;refine aa ?_;refine dL (cc) ?_;refine yc (c1) [(0,0)] ?_;refine aa ?_;refine av (Nat×List bf×List MV×Nat×Bool) (fun x=> [(47, .int .i64 x.1),(46, .int .i64 trs.length),(45, .sl trs.length (trs.map lC)),(4, .ptr 3 2 0 0 []),(3, .ptr 2 6 0 0 []),(2, .ptr 1 2 0 0 [])]) (fun x=>match x.2.2.2.2 with
  | true=> [(1,⟨33,2,false,0,[.st [.ms 4 3 0 x.2.2.2.1, .int .u64 col]]⟩),(4,⟨91,3,true,0,x.2.2.1⟩),(2,⟨98,6,false,0,[.st [.str snd, .int .u64 seq, .int .u64 gas, .int .u64 fee, .str memo, .sl trs.length (trs.map lC)]]⟩),(3,⟨33,2,false,0,[.st [.nils, .int .u64 0]]⟩)]
  | false=> [(1,⟨33,2,false,0,[.st [.ms 0 3 0 x.2.2.2.1, .int .u64 col]]⟩),(0,⟨91,3,true,0,x.2.2.1⟩),(2,⟨98,6,false,0,[.st [.str snd, .int .u64 seq, .int .u64 gas, .int .u64 fee, .str memo, .sl trs.length (trs.map lC)]]⟩),(3,⟨33,2,false,0,[.st [.nils, .int .u64 0]]⟩)]) 5 (fun x=>x.1≤trs.length∧x.2.1.length≤acs.length + x.1∧ei x.2.1∧(∀a∈x.2.1,SmAc a)∧(trs.drop x.1).foldl gC x.2.1=R∧x.2.2.1=x.2.1.map aT∧x.2.2.2.1=x.2.1.length) (fun x=>trs.length - x.1) (0,z0,_,acs.length,false) ⟨a₄ _,dm,hs0,hsm0,by dsimp only;rw [b₃];exact hR,t2,hz0l.symm⟩ (by dsimp only;exact(vm [(1,_),(2,_),(3,_)] [])) ?_
 clear hR t2 r1 r2 c1 hz0l hs0 hsm0;rintro⟨k,z,Z,m,f⟩ ⟨hk,hzn,hz,hzs,hRk,hZ,hm⟩;dsimp only at hk hzn hz hzs hRk hZ hm;subst hZ;subst hm;try dsimp only
 refine aa ?_;refine ad rfl ?_ ?_ <;> intro h
 ·have hk':k < trs.length:=by have:=ot h;omega
  have hel:=ll hk';have hx:=h7 _ (b₁ hk');have hps:=xS hx hzs;rw [a₃ hk',List.foldl_cons] at hRk;generalize trs[k] =x at *;obtain⟨to_,amt⟩:=x;obtain⟨hx1,hx2⟩:=hx;dsimp only at hx1 hx2;unfold bo at hx2;replace hel:bF (trs.map lC) trs.length (k:Int)=some (.st [.str to_, .int .u64 amt]):=hel;have helx:=aj.mk hel;clear hel;have cq:=cp z to_ hz om;obtain⟨⟨⟨bn,bb,bs⟩,bok⟩,hg⟩: ∃g,bz z to_=g:=⟨_,rfl⟩
  have hgs:=nv (name:=to_) hzs;rw [hg] at cq hgs;obtain⟨hgs1,hgs2,hgs3⟩:=hgs;dsimp only at cq hgs1 hgs2 hgs3;unfold bo at hgs2 hgs3;cases bok with
  | true=>
   obtain⟨hbn,hel⟩:=va hz hg;have hz2:=La (x:=⟨to_,amt⟩) hz hg;dsimp only at hbn hel hz2;have hzs2:ei (gC z ⟨to_,amt⟩):=ql hz;have hppl:posA to_ z < z.length:=(a₆.1 hel).1;have hzl:(gC z ⟨to_,amt⟩).length=z.length:=by rw [hz2,b₅]
   have r1:=aj.mk (yn hel);have s1:=yp z (posA to_ z) bn ((bb + amt) % 18446744073709551616) bs;rw [← hz2] at s1;have w1:=aU.mk (show IntKind.u64.wrap ((bb:Int) + (amt:Int))=(((bb + amt) % 18446744073709551616:Nat):Int) by rw [wu64];omega);generalize (bb + amt) % 18446744073709551616=sm at *;generalize gC z ⟨to_,amt⟩=z' at *;generalize posA to_ z=pp at *;clear hz2 hg;cases f with
   | true=>
    dsimp only;refine aa ?_;refine yc (cq) [(0,4)] ?_;refine aa ?_;refine al [ae 0,ae 1,ae 2,ae 3,ae 4,ae 5,ae 6,ae 7,ae 8,ae 9,ae 10,ae 11] ?_;refine aa ?_;exact⟨(k + 1,z',_,z.length,true),⟨dm,dm,hzs2,hps.1,hRk,s1,hzl.symm⟩,dm,(by dsimp only;exact(vm [(1,_),(4,_),(2,_),(3,_)] []))⟩
   | false=>
    dsimp only;refine aa ?_;refine yc (cq) [(0,0)] ?_;refine aa ?_;refine al [ae 0,ae 1,ae 2,ae 3,ae 4,ae 5,ae 6,ae 7,ae 8,ae 9,ae 10,ae 11] ?_;refine aa ?_;exact⟨(k + 1,z',_,z.length,false),⟨dm,dm,hzs2,hps.1,hRk,s1,hzl.symm⟩,dm,(by dsimp only;exact(vm [(1,_),(2,_),(3,_)] []))⟩
  | false=>
   replace hg:(bz z to_).2=false:=by rw [hg]
   have hz2:=Ng (x:=⟨to_,amt⟩) hz hg;dsimp only at hz2;have hzs2:ei (gC z ⟨to_,amt⟩):=ql hz;have hppl:posA to_ z≤z.length:=lz _ _;have hzl:(gC z ⟨to_,amt⟩).length=z.length + 1:=by rw [hz2];simp;omega
   have r1:=aj.mk (yn (Lb z ⟨to_,0,0⟩ hppl));have s1:=yp (z.take (posA to_ z) ++ ⟨to_,0,0⟩ :: z.drop (posA to_ z)) (posA to_ z) to_ ((0 + amt) % 18446744073709551616) 0;rw [Lc _ _ _ hppl,← hz2] at s1;have w1:=aU.mk (show IntKind.u64.wrap ((0:Nat) + (amt:Int))=(((0 + amt) % 18446744073709551616:Nat):Int) by rw [wu64];omega);have ci:=I7 (G:=G) z ⟨to_,0,0⟩ (posA to_ z) hppl om;unfold di at ci;generalize (0 + amt) % 18446744073709551616=sm at *;generalize z.take (posA to_ z) ++ ⟨to_,0,0⟩ :: z.drop (posA to_ z)=zi at *;generalize gC z ⟨to_,amt⟩=z' at *;generalize posA to_ z=pp at *;clear hz2 hg;cases f with
   | true=>
    dsimp only;refine aa ?_;refine yc (cq) [(0,4)] ?_;refine aa ?_;refine bC rfl aA rfl (ci) [(0,4),(1,_)] [] ⟨rfl,trivial,rfl,lm,mm⟩ rfl rfl ?_;refine aa ?_;refine al [ae 0,ae 1,ae 2,ae 3,ae 4,ae 5,ae 6,ae 7,ae 8,ae 9,ae 10,ae 11] ?_;refine aa ?_;exact⟨(k + 1,z',_,z.length + 1,true),⟨dm,dm,hzs2,hps.1,hRk,s1,hzl.symm⟩,dm,(by dsimp only;exact(vm [(1,_),(4,_),(2,_),(3,_)] []))⟩
   | false=>
    dsimp only;refine aa ?_;refine yc (cq) [(0,0)] ?_;refine aa ?_;refine bC rfl aA rfl (ci) [(0,0),(1,_)] [] ⟨rfl,trivial,rfl,lm,mm⟩ rfl rfl ?_;refine aa ?_;refine al [ae 0,ae 1,ae 2,ae 3,ae 4,ae 5,ae 6,ae 7,ae 8,ae 9,ae 10,ae 11] ?_;refine aa ?_;exact⟨(k + 1,z',_,z.length + 1,true),⟨dm,dm,hzs2,hps.1,hRk,s1,hzl.symm⟩,dm,(by dsimp only;exact(vm [(1,_),(4,_),(2,_),(3,_)] []))⟩
 ·have hk':k=trs.length:=by have:=oF h;omega
  subst hk';rw [a₈,List.foldl_nil] at hRk;subst hRk;cases f with
  | true=>
   dsimp only;refine aa ?_;refine au ?_;refine⟨[_],[],[(4,z.length)],rfl,rfl,?_,rfl,⟨?_,trivial⟩,?_⟩
   ·exact⟨by show z.length≤(z.map aT).length;simp,trivial⟩
   ·exact .inr ⟨_,rfl,lm⟩
   ·exact mm
  | false=>
   dsimp only;refine aa ?_;refine au ?_;refine⟨[_],[],[(0,z.length)],rfl,rfl,?_,rfl,⟨?_,trivial⟩,?_⟩
   ·exact⟨by show z.length≤(z.map aT).length;simp,trivial⟩
   ·exact .inr ⟨_,rfl,lm⟩
   ·exact mm
end
section
attribute [local irreducible] ak aB aD aI aN vC aW aw
theorem AS {l:dK} {p:Nat} {t:je} {n:Nat} (h:ga l p t n=0):(bz l.acs t.sender).2=true:=by
 unfold ga at h;cases hb:(bz l.acs t.sender).2 with
 | true=>rfl
 | false=>rw [hb,if_pos rfl] at h;exact absurd h (by decide)
theorem Ol (l:dK) (price:Nat) (raw:List UInt8) (hl:eN l) (hp:bo price) (hraw:raw.length≤140737488355328):aQ Tryz.prog GU 51 [eh l, .int .u64 price, .sl raw.length (u8s raw)] [] 0 (.tup [eh (oD l price raw).1,eA (oD l price raw).2]) [] 0:=by
 have cv:=FB (G:=GU) l hl;have cd:=Ft raw hraw;have hsm:=i7 (raw:=raw);have cp:=KX (G:=GU) (aS raw).1.fee (aS raw).1.gas hsm.2.2.2.1 hsm.2.2.1;have co:=AJ (G:=GU) l (by have:=hl.1;omega);have cf:=fun (hv:fR l=0) (he:(aS raw).2=0)=>I8 (G:=GU) l price _ raw.length hl (wP hv).1 hsm hp (by have:=Dd he;omega)
 have cdn:=fun (hv:fR l=0) (hf:ga l price (aS raw).1 raw.length=0)=>Ld (G:=GU) l _ hl (wP hv).1 hsm (AS hf)
 generalize hr:oD l price raw=R;obtain⟨⟨Racs,Rcol⟩,⟨Rcode,Rsnd,Rseq,Rgas,Rprio⟩⟩:=R;unfold oD at hr;generalize aS raw=d at *;obtain⟨t,e⟩:=d;dsimp only at *;generalize fR l=vl at *;generalize eW t=cst at *;obtain⟨cstv,cstb⟩:=cst;dsimp only at *;generalize iC l t cstv=D at *;generalize ga l price t raw.length=fe at *;obtain⟨snd,seq,gas,fee,memo,trs⟩:=t;dsimp only at *;generalize pO fee gas=pr at *;obtain⟨acs,col⟩:=l;obtain⟨dacs,dcol⟩:=D;obtain⟨h1,h2,h3,h4,h5,h6,h7⟩:=hsm;obtain⟨hl1,hl2,hl3⟩:=hl;dsimp only at h1 h2 h3 h4 h5 h6 h7 hl1 hl2 hl3;unfold di at *;unfold eh nP at *;unfold eA;dsimp only at *;by_cases hv:vl=0
 ·subst hv;replace cf:=cf rfl;rw [if_neg sm] at hr;by_cases he:e=0
  ·subst he;replace cf:=cf rfl;rw [if_neg sm] at hr;have hr2:=hr;simp only [a₂,fu.mk.injEq] at hr2;obtain⟨hD,rfl,rfl,rfl,rfl,rfl⟩:=hr2;clear hr;refine dw seat Tryz.func51 55 ?_;refine aa ?_;refine yc (co) [] ?_;refine aa ?_;refine dL (cv) ?_;refine jW (cd) ?_;refine al [ae 0,ae 1,ae 2,ae 3,ae 4,dj 5,ae 6,ae 7,ae 8,ae 9,ae 10,ae 11,ae 12,ae 13,ae 14,ae 15,dj 16,ae 17,ae 18,ae 19] ?_;refine aa ?_;refine cW (cf) ?_;refine cW (cp) ?_;refine ad rfl ?_ ?_ <;> intro h
   ·have hfe:fe=0:=by
     have:(fe:Int)=0:=by simpa using h
     omega
    subst hfe;rw [if_neg sm] at hD;simp only [dK.mk.injEq] at hD;obtain⟨rfl,rfl⟩:=hD;have cdn:=cdn rfl rfl;refine aa ?_;refine yc (cdn) [(0,4)] ?_;refine aa ?_;refine al [ae 0,ae 1,ae 2,ae 3] ?_;refine aa ?_;refine au ?_;exact en [_,_]
   ·have hfe:fe≠0:=fun e=>by subst e;simp at h
    rw [if_pos hfe] at hD;simp only [dK.mk.injEq] at hD;obtain⟨rfl,rfl⟩:=hD;refine aa ?_;refine al [ae 0,ae 1,ae 2,ae 3] ?_;refine aa ?_;refine au ?_;refine⟨[_,_],[],[(4,acs.length)],rfl,rfl,?_,rfl,⟨?_,?_,trivial⟩,?_⟩
    ·exact⟨by show acs.length≤(acs.map aT).length;simp,trivial⟩
    ·exact .inr ⟨_,rfl,lm⟩
    ·exact rv
    ·exact mm
  ·rw [if_pos he] at hr;simp only [a₂,dK.mk.injEq,fu.mk.injEq] at hr;obtain⟨⟨rfl,rfl⟩,rfl,rfl,rfl,rfl,rfl⟩:=hr;refine dw seat Tryz.func51 55 ?_;refine aa ?_;refine yc (co) [] ?_;refine aa ?_;refine dL (cv) ?_;refine jW (cd) ?_;refine ad rfl ?_ ?_ <;> intro h
   ·refine aa ?_;refine au ?_;refine⟨[_,_],[],[(4,acs.length)],rfl,rfl,?_,rfl,⟨?_,?_,trivial⟩,?_⟩
    ·exact⟨by show acs.length≤(acs.map aT).length;simp,trivial⟩
    ·exact .inr ⟨_,rfl,lm⟩
    ·exact rv
    ·exact mm
   ·exact absurd (by simpa using h) he
 ·rw [if_pos hv] at hr;simp only [a₂,dK.mk.injEq,fu.mk.injEq] at hr;obtain⟨⟨rfl,rfl⟩,rfl,rfl,rfl,rfl,rfl⟩:=hr;refine dw seat Tryz.func51 55 ?_;refine aa ?_;refine yc (co) [] ?_;refine aa ?_;refine dL (cv) ?_;refine ad rfl ?_ ?_ <;> intro h
  ·refine aa ?_;refine au ?_;refine⟨[_,_],[],[(4,acs.length)],rfl,rfl,?_,rfl,⟨?_,?_,trivial⟩,?_⟩
   ·exact⟨by show acs.length≤(acs.map aT).length;simp,trivial⟩
   ·exact .inr ⟨_,rfl,lm⟩
   ·exact rv
   ·exact mm
  ·exact absurd (by simpa using h) hv
end
section
attribute [local irreducible] ak aB aD aI aN vC aW aw
theorem Nh (l:dK) (p:Nat) (raws:List (List UInt8)) (hl:eN l) (hp:bo p) (hn:raws.length≤1000000) (hb: ∀b∈raws,b.length≤140737488355328):aQ Tryz.prog GU 54 [eh l, .int .u64 p,dH raws] [] 0 (.tup [eh (iD p raws l []).1, .sl (iD p raws l []).2.length ((iD p raws l []).2.map eA)]) [] 0:=by
 generalize hr:iD p raws l [] =R;obtain⟨⟨Racs,Rcol⟩,Rout⟩:=R;have co:=rA (G:=GU) l (by have:=hl.1;omega);obtain⟨acs0,col0⟩:=l;unfold dH eh at *;dsimp only;refine dw seat Tryz.func54 36 ?_;refine aa ?_;refine jW (co) ?_;refine av (Nat×dK×List fu) (fun x=> [(17, .int .i64 x.1),(16, .int .i64 raws.length),(15, .sl raws.length (raws.map bk)),(8, .ms 2 5 0 x.2.2.length),(6, .ptr 1 2 0 0 []),(3, .ptr 0 2 0 0 []),(1, .int .u64 p)]) (fun x=> [(0,⟨33,2,false,0,[.st [.sl x.2.1.acs.length (x.2.1.acs.map aT), .int .u64 x.2.1.col]]⟩),(1,⟨33,2,false,0,[.st [.nils, .int .u64 0]]⟩),(2,⟨48,5,true,0,x.2.2.map eA⟩)]) 3 (fun x=>x.1≤raws.length∧x.2.2.length=x.1∧eN x.2.1∧iD p (raws.drop x.1) x.2.1 x.2.2=(⟨Racs,Rcol⟩,Rout)) (fun x=>raws.length - x.1) (0,⟨acs0,col0⟩,[]) ⟨a₄ _,rfl,hl,by dsimp only;rw [b₃];exact hr⟩ (by dsimp only;exact(vm [(0,_),(1,_)] [])) ?_;clear hr hl;rintro⟨k,⟨acs,col⟩,out⟩ ⟨hk,hout,hsl,hR⟩;try dsimp only
 dsimp only at hk hout hR;refine aa ?_;refine ad rfl ?_ ?_ <;> intro h
 ·have hk':k < raws.length:=by have:=ot h;omega
  have hel:=gM hk';have hbl:=hb _ (b₁ hk');rw [a₃ hk',iD] at hR;generalize raws[k] =raw at *;replace hel:bF (raws.map bk) raws.length (k:Int)=some (.sl raw.length (u8s raw)):=hel;have hel:=aj.mk hel;have c1:=Ol ⟨acs,col⟩ p raw hsl hp hbl;have hs2:=jQ (p:=p) (raw:=raw) hsl;generalize oD ⟨acs,col⟩ p raw=y at *;obtain⟨⟨nacs,ncol⟩,⟨ec,esn,esq,egs,epr⟩⟩:=y;unfold eh eA at c1;dsimp only at c1 hR hs2;refine aa ?_;refine jW (c1) ?_;refine al [ae 0,ae 1,ae 2,ae 3,ae 4,ae 5,ae 6] ?_;refine aa ?_;refine aZ rfl (by intro R hR;refine cI hR ?_;(refine a₁ (a₅ _) ?_;refine⟨_,rfl,?_⟩;refine a₁ ⟨sm,ai (by kernel_rfl) pf⟩ ?_;refine⟨(out ++ [(⟨ec,esn,esq,egs,epr⟩:fu)]).map eA,sv (by simp;rfl),out.length + 1,sv pf,?_⟩);exact hR) rfl ?_;refine aa ?_;exact⟨(k + 1,⟨nacs,ncol⟩,out ++ [⟨ec,esn,esq,egs,epr⟩]),⟨dm,by dsimp only;rw [b₂,b₀];omega,hs2.1,hR⟩,dm,(by dsimp only;rw [b₂,b₀];exact(vm [(0,_),(1,_),(2,_)] []))⟩
 ·have hk':k=raws.length:=by have:=oF h;omega
  subst hk';rw [a₈,iD] at hR;simp only [a₂,dK.mk.injEq] at hR;obtain⟨⟨rfl,rfl⟩,rfl⟩:=hR;refine aa ?_;refine au ?_;refine⟨[_,_],[],[(2,out.length)],rfl,rfl,?_,rfl,⟨?_,?_,trivial⟩,?_⟩
  ·exact⟨by show out.length≤(out.map eA).length;simp,trivial⟩
  ·exact .inl ⟨rfl,rfl⟩
  ·exact .inr ⟨rfl,rfl,rfl,b₉ (a₇ _),bc eA out⟩
  ·exact mm
end
section
attribute [local irreducible] ak aB aD aI aN vC aW aw
theorem I9 (a:ef) (ha:fm a):aE Tryz.prog GU 50 [appM a] (appM a):=by
 have c1:=rA (G:=GU) a.com (by have:=ha.1.1;omega);have c2:=rA (G:=GU) a.chk (by have:=ha.2.1.1;omega);have c3:=rA (G:=GU) a.nxt (by have:=ha.2.2.1.1;omega);obtain⟨⟨a1,b1⟩,⟨a2,b2⟩,⟨a3,b3⟩,op,price⟩:=a;unfold appM eh at *;dsimp only at *;refine bA seat Tryz.func50 16 ?_;refine aa ?_;refine al [ae 0,ae 1,dj 2,ae 3,ae 4,dj 5,ae 6,ae 7,dj 8,ae 9,ae 10,ae 11,ae 12,ae 13,ae 14] ?_;refine aa ?_;refine pF (c1) ?_;refine pF (c2) ?_;refine pF (c3) ?_;refine au ?_;rfl
theorem FQ (a:ef) (ha:fm a):aQ Tryz.prog GU 28 [appM a] [] 0 (.tup [appM (qW a).1, .int .i64 (qW a).2]) [] 0:=by
 have c1:=rA (G:=GU) a.nxt (by have:=ha.2.2.1.1;omega);unfold qW;obtain⟨⟨a1,b1⟩,⟨a2,b2⟩,⟨a3,b3⟩,op,price⟩:=a;dsimp only at *;have hA: ∀op:Bool,appM ⟨⟨a1,b1⟩,⟨a2,b2⟩,⟨a3,b3⟩,op,price⟩= .st [.st [.sl a1.length (a1.map aT), .int .u64 b1], .st [.sl a2.length (a2.map aT), .int .u64 b2], .st [.sl a3.length (a3.map aT), .int .u64 b3], .bool op, .int .u64 price] :=fun _=>rfl
 rw [hA];unfold eh at c1;dsimp only at c1;cases op with
 | false=>
  rw [if_pos rfl];refine dw seat Tryz.func28 17 ?_;refine aa ?_;refine au ?_;refine⟨[_,_],[],[],rfl,rfl,trivial,rfl,⟨?_,?_,trivial⟩,?_⟩
  ·exact fJ
  ·exact rv
  ·exact mm
 | true=>
  rw [if_neg sm];refine dw seat Tryz.func28 17 ?_;refine aa ?_;refine al [ae 0,ae 1,dj 2,ae 3,ae 4,dj 5,ae 6,ae 7,ae 8,ae 9,ae 10] ?_;refine aa ?_;refine pF (c1) ?_;refine pF (c1) ?_;refine au ?_;refine⟨[_,_],[],[],rfl,rfl,trivial,rfl,⟨?_,?_,trivial⟩,?_⟩
  ·exact .inr ⟨_,rfl,⟨rel_lg,rel_lg,rel_lg0,⟨rfl,rfl⟩,⟨rfl,rfl⟩,trivial⟩⟩
  ·exact rv
  ·exact mm
theorem Ni (a:ef) (raws:List (List UInt8)) (ha:fm a) (hn:raws.length≤1000000) (hb: ∀b∈raws,b.length≤140737488355328):aQ Tryz.prog GU 31 [appM a,dH raws] [] 0 (.tup [appM (jw a raws).1, .sl (jw a raws).2.1.length ((jw a raws).2.1.map eA), .int .i64 (jw a raws).2.2]) [] 0:=by
 have c0:=I9 a ha;have c1:=Nh a.com a.price raws ha.1 ha.2.2.2 hn hb;unfold jw;obtain⟨⟨a1,b1⟩,⟨a2,b2⟩,⟨a3,b3⟩,op,price⟩:=a;dsimp only at *;generalize iD price raws ⟨a1,b1⟩ [] =y at *;obtain⟨⟨nacs,ncol⟩,out⟩:=y;unfold dH at *;have hA: ∀op:Bool,appM ⟨⟨a1,b1⟩,⟨a2,b2⟩,⟨a3,b3⟩,op,price⟩= .st [.st [.sl a1.length (a1.map aT), .int .u64 b1], .st [.sl a2.length (a2.map aT), .int .u64 b2], .st [.sl a3.length (a3.map aT), .int .u64 b3], .bool op, .int .u64 price] :=fun _=>rfl
 rw [hA] at c0 ⊢;unfold eh at c1;dsimp only at c1;cases op with
 | true=>
  rw [if_pos rfl];refine dw seat Tryz.func31 33 ?_;refine aa ?_;refine au ?_;refine⟨[_,_,_],[],[],rfl,rfl,trivial,rfl,⟨?_,?_,?_,trivial⟩,?_⟩
  ·exact fJ
  ·exact .inr ⟨rfl,rfl⟩
  ·exact rv
  ·exact mm
 | false=>
  rw [if_neg sm];by_cases hl:512 < raws.length
  ·rw [if_pos hl];refine dw seat Tryz.func31 33 ?_;refine aa ?_;(iterate 4 ((all_goals(refine aa ?_));(all_goals(first | ((first | refine ag rfl rfl ?_ rfl ?_ | refine ad rfl ?_ ?_);all_goals(intro h;(try simp only [pl] at h);(try (exfalso;omega)))) | skip))));all_goals(refine au ?_)
   refine⟨[_,_,_],[],[],rfl,rfl,trivial,rfl,⟨?_,?_,?_,trivial⟩,?_⟩
   ·exact fJ
   ·exact .inr ⟨rfl,rfl⟩
   ·exact rv
   ·exact mm
  ·rw [if_neg hl];dsimp only
   show aQ _ _ _ _ _ _ (.tup [.st [.st [.sl a1.length (a1.map aT), .int .u64 b1], .st [.sl a2.length (a2.map aT), .int .u64 b2], .st [.sl nacs.length (nacs.map aT), .int .u64 ncol], .bool true, .int .u64 price],_,_]) _ _
   refine dw seat Tryz.func31 33 ?_;refine aa ?_;refine ad rfl ?_ ?_ <;> intro h
   ·exact absurd (ot h) om
   refine aa ?_;refine dL (c0) ?_;refine jW (c1) ?_;refine au ?_;exact en [_,_,_]
end
section
attribute [local irreducible] ak aB aD aI aN vC aW aw
theorem Ja (hS:u9 Tryz.prog 75 76) (l:List bf) (p:Nat) (hl:l.length≤100000) (hsm: ∀a∈l,qS a) (hp:bo p):aQ Tryz.prog GU 15 [.sl l.length (l.map aT), .int .u64 p] [] 0 (.tup [appM (bm l p).1, .int .i64 (bm l p).2]) [] 0:=by
 have c1:=K9 (G:=GU) hS l hl hsm;have hgs:=uB hsm;have co:=rA (G:=GU) (jB l).1 (by have:=hgs.1;omega);unfold bm;generalize jB l=y at *;obtain⟨⟨nacs,ncol⟩,e⟩:=y;unfold eh at c1 co;dsimp only at *;by_cases he:e=0
 ·rw [if_neg (by simpa using he)]
  show aQ _ _ _ _ _ _ (.tup [.st [.st [.sl nacs.length (nacs.map aT), .int .u64 ncol], .st [.sl nacs.length (nacs.map aT), .int .u64 ncol], .st [.sl 0 [], .int .u64 (0:Nat)], .bool false, .int .u64 p],_]) _ _
  refine dw seat Tryz.func15 22 ?_;refine aa ?_;refine jW (c1) ?_;refine ad rfl ?_ ?_ <;> intro h
  ·exact absurd he (fun he=>by subst he;simp at h)
  refine aa ?_;refine al [ae 0,ae 1,dj 2,ae 3,ae 4,ae 5,ae 6] ?_;refine aa ?_;refine pF (co) ?_;refine au ?_;refine⟨[_,_],[],[],rfl,rfl,trivial,rfl,⟨?_,?_,trivial⟩,?_⟩
  ·exact .inr ⟨_,rfl,⟨rel_lg,rel_lg,rel_lg0,⟨rfl,rfl⟩,⟨rfl,rfl⟩,trivial⟩⟩
  ·exact rv
  ·exact mm
 ·rw [if_pos he];dsimp only;refine dw seat Tryz.func15 22 ?_;refine aa ?_;refine jW (c1) ?_;refine ad rfl ?_ ?_ <;> intro h
  ·refine aa ?_;refine au ?_;refine⟨[_,_],[],[],rfl,rfl,trivial,rfl,⟨?_,?_,trivial⟩,?_⟩
   ·exact fJ
   ·exact rv
   ·exact mm
  ·exfalso;have: ¬ (e:Int)≠0:=by simpa using h
   omega
end
section
open Go.RowKit Go.Lib Go.Shelf Go.Sort
theorem O8:SWO (ltOf fun x y:bf=>jy x.name y.name) where
 irrefl x:=by rw [nB];exact less_irr _
 trans x y z h1 h2:=by rw [nB] at *;exact hO h1 h2
 ntrans x y z h1 h2:=by
  rw [nB] at *;cases h:Op.bytesLess x.name z.name with
  | false=>rfl
  | true=>
   exfalso;by_cases e:z.name=y.name
   ·rw [e,h1] at h;cases h
   ·have h3:=uU h2 (Ne.symm e);rw [hO h h3] at h1;cases h1
theorem Nj:u9 Tryz.prog 75 76:=by
 intro g cap d w hH hg hd;have eg: ∀args w,(callFunc 76 args).run Tryz.prog w= .ok (.enter 76 args) w:=enters_of Tryz.func76 (by kernel_rfl) rfl
 exact AnyQ.slices_SortFunc Tryz.sortAcc 3 Tryz.isAgg91 Tryz.sizeOf91 jc (fun _=>rfl) (fun x v hv=>by simp [jc] at hv;rcases hv with rfl | rfl | rfl <;> rfl) (fun x y=>jy x.name y.name) O8 76 #[] g 0 cap d w eg (fun _ _ _ _ x y=>I2 x y _) hH hg hd
theorem Jb (l:List bf) (p:Nat) (hl:l.length≤100000) (hsm: ∀a∈l,qS a) (hp:bo p):aQ Tryz.prog GU 15 [.sl l.length (l.map aT), .int .u64 p] [] 0 (.tup [appM (bm l p).1, .int .i64 (bm l p).2]) [] 0:=Ja Nj l p hl hsm hp
end
section
attribute [local irreducible] ak aB aD aI aN vC aW aw
def AT (acs:List bf) (c:ou) (bl:List dv):ef×dO×Nat×Int:=
 if jS c≠0 then(app0,tip0,0,jS c) else if (bm acs c.price).2≠0 then(app0,tip0,0,(bm acs c.price).2) else
 ((repL c.nodes c.blkB bl 0 (bm acs c.price).1 (iE (bm acs c.price).1.com)).1,(repL c.nodes c.blkB bl 0 (bm acs c.price).1 (iE (bm acs c.price).1.com)).2.1,(repL c.nodes c.blkB bl 0 (bm acs c.price).1 (iE (bm acs c.price).1.com)).2.2.1,(repL c.nodes c.blkB bl 0 (bm acs c.price).1 (iE (bm acs c.price).1.com)).2.2.2)
theorem Le {l:List dv} {k:Nat} (hk:k < l.length):bF (l.map blkM) l.length (k:Int)=some (blkM l[k]):=cO hk (by simp [hk])
theorem DM {a:ef} {b:dv} (h:fm a):fm (iF a b):=Di (xV h).1
theorem Jc (acs:List bf) (c:ou) (bl:List dv) (hl:acs.length≤100000) (hsm: ∀a∈acs,qS a) (hc:Oa c) (hbl:bl.length≤100000) (hb: ∀b∈bl,dI b):aQ Tryz.prog GU 40 [.sl acs.length (acs.map aT),cfM c, .sl bl.length (bl.map blkM)] [] 0 (.tup [appM (AT acs c bl).1,fw (AT acs c bl).2.1, .int .i64 (AT acs c bl).2.2.1, .int .i64 (AT acs c bl).2.2.2]) [] 0:=by
 have cv:=Ij (G:=GU) c hc;have ci:=Jb acs c.price hl hsm hc.h9;have hi:=qU (acs:=acs) (p:=c.price) hsm hc.h9;unfold AT;generalize jS c=v at *;generalize bm acs c.price=ia at *;obtain⟨a0,ea⟩:=ia;dsimp only at ci hi ⊢;by_cases hv:v=0;rotate_left
 ·rw [if_pos hv];clear ci hi hb;refine dw seat Tryz.func40 81 ?_;refine aa ?_;refine dL (cv) ?_;refine ad rfl ?_ ?_ <;> intro h
  ·refine aa ?_;refine au ?_;refine⟨[_,_,_,_],[],[],rfl,rfl,trivial,rfl,⟨?_,?_,?_,?_,trivial⟩,?_⟩
   ·exact fJ
   ·exact rv
   ·exact rv
   ·exact rv
   ·exact mm
  ·exact absurd (by simpa using h) hv
 subst hv;rw [if_neg sm];by_cases hea:ea=0;rotate_left
 ·rw [if_pos hea];have hz:((ea:Int) !=0)=true:=by simp;omega
  clear hi hb;obtain⟨⟨a1,b1⟩,⟨a2,b2⟩,⟨a3,b3⟩,op,price⟩:=a0;unfold appM eh at ci;dsimp only at ci;refine dw seat Tryz.func40 81 ?_;refine aa ?_;refine dL (cv) ?_;refine jW (ci) ?_;rw [hz];refine aa ?_;refine au ?_;refine⟨[_,_,_,_],[],[],rfl,rfl,trivial,rfl,⟨?_,?_,?_,?_,trivial⟩,?_⟩
  ·exact fJ
  ·exact rv
  ·exact rv
  ·exact rv
  ·exact mm
 subst hea;rw [if_neg sm];have cg:=Im (G:=GU) a0.com hi.1;have ht:=(nA a0.com).1;generalize iE a0.com=t0 at *;generalize hR:repL c.nodes c.blkB bl 0 a0 t0=R;obtain⟨⟨⟨r1,q1⟩,⟨r2,q2⟩,⟨r3,q3⟩,rop,rpr⟩,Rt,Rn,Re⟩:=R;obtain⟨⟨a1,b1⟩,⟨a2,b2⟩,⟨a3,b3⟩,op,price⟩:=a0;unfold appM eh at ci ⊢;unfold eh at cg;dsimp only at ci cg ⊢;refine dw seat Tryz.func40 81 ?_;refine aa ?_;refine dL (cv) ?_;refine jW (ci) ?_;refine dL (cg) ?_;refine av (Nat×ef×dO) (fun x=> [(41, .int .i64 x.1),(40, .int .i64 bl.length),(39, .sl bl.length (bl.map blkM)),(4, .ptr 0 12 0 0 []),(6, .ptr 1 8 0 0 []),(7, .ptr 2 98 0 0 [])]) (fun x=> [(0,⟨66,12,false,0,[cfM c]⟩),(1,⟨35,8,false,0,[.st [.st [.sl x.2.1.com.acs.length (x.2.1.com.acs.map aT), .int .u64 x.2.1.com.col], .st [.sl x.2.1.chk.acs.length (x.2.1.chk.acs.map aT), .int .u64 x.2.1.chk.col], .st [.sl x.2.1.nxt.acs.length (x.2.1.nxt.acs.map aT), .int .u64 x.2.1.nxt.col], .bool x.2.1.opn, .int .u64 x.2.1.price]]⟩),(2,⟨70,98,false,0,[fw x.2.2]⟩)]) 3 (fun x=>x.1≤bl.length∧fm x.2.1∧jx x.2.2∧repL c.nodes c.blkB (bl.drop x.1) x.1 x.2.1 x.2.2=(⟨⟨r1,q1⟩,⟨r2,q2⟩,⟨r3,q3⟩,rop,rpr⟩,Rt,Rn,Re)) (fun x=>bl.length - x.1) (0,⟨⟨a1,b1⟩,⟨a2,b2⟩,⟨a3,b3⟩,op,price⟩,t0) ⟨a₄ _,hi,ht,by dsimp only;rw [b₃];exact hR⟩ (by dsimp only;exact(vm [(0,_),(1,_),(2,_)] [])) ?_;clear hR ht cg ci cv hi;clear a1 b1 a2 b2 a3 b3 op price t0;rintro⟨k,⟨⟨a1,b1⟩,⟨a2,b2⟩,⟨a3,b3⟩,op,price⟩,t⟩ ⟨hk,ha,ht,hR⟩;try dsimp only
 dsimp only at hk ha ht hR;refine aa ?_;refine ad rfl ?_ ?_ <;> intro h
 ·have hk':k < bl.length:=by have:=ot h;omega
  have hel:=Le hk';have hbo:=hb _ (b₁ hk');rw [a₃ hk',repL] at hR;generalize bl[k] =b at *;have hel:=aj.mk hel;have cc:=ri (G:=GU) t b c.nodes c.blkB ht hbo.hd hc.h11 hc.h7 (by have:=hbo.n;omega) (fun x hx=>by have:=hbo.len x hx;omega);have hF:=xV (raws:=b.txs) ha;have cF:=Ni _ b.txs ha (by have:=hbo.n;omega) (fun x hx=>by have:=hbo.len x hx;omega);have cC:=FQ _ hF.1;have hn:=DM (b:=b) ha;have cA:=Io (G:=GU) t b (iF ⟨⟨a1,b1⟩,⟨a2,b2⟩,⟨a3,b3⟩,op,price⟩ b).com (jw ⟨⟨a1,b1⟩,⟨a2,b2⟩,⟨a3,b3⟩,op,price⟩ b.txs).2.1 hbo.hd hn.1 (by have:=hF.2.2;have:=hbo.n;omega) hF.2.1;have hA:=qd (iF ⟨⟨a1,b1⟩,⟨a2,b2⟩,⟨a3,b3⟩,op,price⟩ b).com (jw ⟨⟨a1,b1⟩,⟨a2,b2⟩,⟨a3,b3⟩,op,price⟩ b.txs).2.1 hbo.hd;replace hA:=hA.1;unfold iG at hR;unfold iF at *;generalize jw ⟨⟨a1,b1⟩,⟨a2,b2⟩,⟨a3,b3⟩,op,price⟩ b.txs=F at *;obtain⟨⟨⟨f1,g1⟩,⟨f2,g2⟩,⟨f3,g3⟩,fop,fpr⟩,rs,fe⟩:=F;dsimp only at *;generalize qW ⟨⟨f1,g1⟩,⟨f2,g2⟩,⟨f3,g3⟩,fop,fpr⟩=C at *;obtain⟨⟨⟨c1,d1⟩,⟨c2,d2⟩,⟨c3,d3⟩,cop,cpr⟩,ce⟩:=C;dsimp only at *;generalize nI b ⟨c1,d1⟩ rs=t2 at *;generalize fA t b c.nodes c.blkB=q at *;obtain⟨hd,txs⟩:=b;unfold appM eh dH at *;dsimp only at *;clear hF hbo;by_cases hq:q=0
  ·subst hq;rw [if_neg sm] at hR;refine aa ?_;refine dL (cc) ?_;refine jW (cF) ?_;refine jW (cC) ?_;refine dL (cA) ?_;exact⟨(k + 1,⟨⟨c1,d1⟩,⟨c2,d2⟩,⟨c3,d3⟩,cop,cpr⟩,t2),⟨dm,hn,hA,hR⟩,dm,(by dsimp only;exact(vm [(0,_),(1,_),(2,_)] []))⟩
  ·rw [if_pos hq] at hR;simp only [app0,lg0,a₂,ef.mk.injEq,dK.mk.injEq] at hR;obtain⟨⟨⟨rfl,rfl⟩,⟨rfl,rfl⟩,⟨rfl,rfl⟩,rfl,rfl⟩,rfl,rfl,rfl⟩:=hR;have hz:((q:Int) !=0)=true:=by simp;omega
   refine aa ?_;refine dL (cc) ?_;rw [hz];refine aa ?_;refine au ?_;refine⟨[_,_,_,_],[],[],rfl,rfl,trivial,rfl,⟨?_,?_,?_,?_,trivial⟩,?_⟩
   ·exact fJ
   ·exact rv
   ·exact rv
   ·exact rv
   ·exact mm
 ·have hk':k=bl.length:=by have:=oF h;omega
  subst hk';rw [a₈,repL] at hR;simp only [a₂,ef.mk.injEq,dK.mk.injEq] at hR;obtain⟨⟨⟨rfl,rfl⟩,⟨rfl,rfl⟩,⟨rfl,rfl⟩,rfl,rfl⟩,rfl,rfl,rfl⟩:=hR;refine aa ?_;refine al [ae 0,ae 1,ae 2,ae 3,ae 4,ae 5] ?_;refine aa ?_;refine au ?_;exact en [_,_,_,_]
end
section
variable {G:GS}
attribute [local irreducible] ak aB aD aI aN vC aW aw
structure OK where
 kind:Int
 n:Int
 bytes:Int
 gas:Int
 raw:List UInt8
abbrev Ny (o:OK):MV:= .st [.int .i64 o.kind, .int .i64 o.n, .int .i64 o.bytes, .int .i64 o.gas, .sl o.raw.length (u8s o.raw)]
theorem FR {a n:Int} (h1:0≤a) (h2:a < 4611686018427387904) (h3:0 < n) (h4:n < 4611686018427387904):IntKind.i64.wrap (a.tmod n)=a % n:=by
 rw [b₇ h1];have:=Int.emod_nonneg a (show n≠0 by omega);have:=Int.emod_lt_of_pos a h3;exact eo _ om om
theorem qn {t:dO} {time prop:Int} {raws:List (List UInt8)} (ht:jx t) (h1: -1000≤t.height∧t.height < 4611686018427387904) (h2: -1000≤t.time∧t.time < 4611686018427387904) (h3:cj time) (h4:cj prop) (hn:raws.length≤1000) (hr: ∀x∈raws,x.length≤4096):dI (dU t time prop raws):=by
 unfold dU;unfold cj at h3;refine⟨⟨by dsimp only;unfold cj;omega,?_,h4,ht.hash,fQ _,ht.app,ht.res⟩,hn,hr⟩;dsimp only;unfold cj;split <;> omega
theorem qo (t:dO) (time prop:Int) (raws:List (List UInt8)):(dU t time prop raws).hd.height=t.height + 1∧(dU t time prop raws).hd.time=if t.time + 1 > time then t.time + 1 else time:=⟨rfl,rfl⟩
theorem FT [NX:Nx] {B:Nat} (n:oE) (o:OK) (hn:fB B n) (hB:B≤90000) (ho1:cj o.bytes) (ho2:cj o.gas):bZ Tryz.prog G 159 [kG n,Ny o] (ND (B + 1)):=by
 have hcf:=hn.st.cfg;have hm:=hn.mono (B':=B + 1) om;have hth:=hn.th;have htt:=hn.tt;have hst:=hn.st.time;have hns:=hcf.nodes;have hsf:=hcf.self;have hrem:=aU.mk (FR (a:=n.tip.height + 1) (n:=n.st.cfg.nodes) om om om om);generalize hrm:(n.tip.height + 1) % n.st.cfg.nodes=rm at *;unfold bZ;refine seq' seat Tryz.func159 93 ?_;refine aa ?_;refine ag rfl rfl ?_ rfl ?_ <;> intro h
 ·refine aa ?_;refine ad rfl ?_ ?_ <;> intro h
  ·refine aa ?_;refine aM (dh n 1 hm) rfl rfl aA (by kernel_rfl) ?_;rintro _ ⟨n2,rp,rfl,hn2⟩;refine aa ?_;(refine bu [_,_] (rvq) (by kernel_rfl) (⟨n2,rp,rfl,hn2⟩))
  ·refine aa ?_;refine al [ae 0,ae 1,ae 2,ae 3,ae 4,ae 5,ae 6,ae 7,ae 8,ae 9] ?_;refine aa ?_;refine ad rfl ?_ ?_ <;> intro h
   ·refine aa ?_;refine aM (dh n 36 hm) rfl rfl aA (by kernel_rfl) ?_;rintro _ ⟨n2,rp,rfl,hn2⟩;refine aa ?_;(refine bu [_,_] (rvq) (by kernel_rfl) (⟨n2,rp,rfl,hn2⟩))
   ·have q1:=h;refine aa ?_;refine ag rfl rfl ?_ rfl ?_ <;> intro h
    ·have q2:=h;refine aa ?_;refine ad rfl ?_ ?_ <;> intro h
     ·refine aa ?_;refine aM (dh n 3 hm) rfl rfl aA (by kernel_rfl) ?_;rintro _ ⟨n2,rp,rfl,hn2⟩;refine aa ?_;(refine bu [_,_] (rvq) (by kernel_rfl) (⟨n2,rp,rfl,hn2⟩))
     ·have q3:=h;have c1:=Fl (G:=G) n.st.cfg o.bytes o.gas hcf ho1 ho2;refine aa ?_;refine aM (c1) rfl rfl aA (by kernel_rfl) ?_;rintro _ ⟨x,y,rfl,hx,hy,hxb⟩;have c2:=KG (G:=G) (FX:=_) n.st x y hn.st om hx hy;have hbo:=Fi (FX:=_) (b:=x) (g:=y) hn.st;have hbs:=Cf n.st x y n.st.cfg.blkB hxb (by have:=hcf.blkB;omega);generalize jU n.st x y=raws at *;have c3:=Il (G:=G) n.tip n.st.time n.st.cfg.self raws om om om (fun x hx=>by have:=hbo.1 x hx;omega);have hbk:=qn (time:=n.st.time) (prop:=n.st.cfg.self) hn.tip om om (by unfold cj;omega) (by unfold cj;omega) om hbo.1;have hbh:=qo n.tip n.st.time n.st.cfg.self raws;have hbt:(if n.tip.time + 1 > n.st.time then n.tip.time + 1 else n.st.time)≤100 * (B + 1):=by split <;> omega
      rw [← hbh.2] at hbt;replace hbh:=hbh.1;have hck:Ce n.tip (dU n.tip n.st.time n.st.cfg.self raws):=by
       have hcn:n.st.cfg=NX.c:=hn.st.fx.1;have q1:n.st.cfg.self=(n.tip.height + 1).tmod n.st.cfg.nodes:=by simpa using q1
       rw [b₇ om] at q1;have q2: ¬ n.tip.height ≥ 1073741824:=by simpa using q2
       have q3: ¬ (if n.tip.time + 1 > n.st.time then n.tip.time + 1 else n.st.time) > 1099511627776:=by simpa using q3
       refine Aw (by rw [← hcn];omega) om (by rw [← hcn];exact q1) om hbo.2 (by rw [← hcn];exact hbs)
      generalize dU n.tip n.st.time n.st.cfg.self raws=b at *;have c4:=ow (G:=G) b.hd hbk.hd;generalize gi b.hd=hk at *;have hnd:fB (B + 1) ⟨n.st,n.tip,n.blocks,n.sent,true,b,n.log⟩:=⟨hm.st,hm.tip,hm.th,hm.tt,hm.blocks,hm.sent,hm.sk,hbk,dm,dm,hm.log,hm.rep,fun _=>hck,hm.bok⟩;refine aa ?_;refine al [ae 0,ae 1,ae 2,ae 3,ae 4,ae 5,ae 6,ae 7,ae 8,ae 9,ae 10,dj 11,dj 12,ae 13,ae 14] ?_;refine aa ?_;refine bQ rfl aA rfl [] (c2) rfl [] trivial (bd _ (by kernel_rfl)) rfl ?_;refine aa ?_;refine bQ rfl aA rfl [] (c3) rfl [] trivial (bd _ (by kernel_rfl)) rfl ?_;refine aa ?_;refine al [ae 0,ae 1,ae 2,ae 3,ae 4] ?_;refine aa ?_;refine al [ae 0,ae 1,ae 2,ae 3,ae 4,ae 5,ae 6,ae 7,dj 8,ae 9,ae 10,ae 11] ?_;refine aa ?_;refine bQ rfl aA rfl [] (src (c4)) rfl [] trivial (bd _ (by kernel_rfl)) rfl ?_;refine aa ?_;(refine bu [_,_] (rvq) (by kernel_rfl) (⟨⟨n.st,n.tip,n.blocks,n.sent,true,b,n.log⟩,⟨_,_,_,(_,_),(_,_),(_,_),(_,_),(_,_),(_,_),_,_⟩,rfl,hnd⟩))
    ·refine aa ?_;refine aM (dh n 3 hm) rfl rfl aA (by kernel_rfl) ?_;rintro _ ⟨n2,rp,rfl,hn2⟩;refine aa ?_;(refine bu [_,_] (rvq) (by kernel_rfl) (⟨n2,rp,rfl,hn2⟩))
 ·refine aa ?_;refine aM (dh n 1 hm) rfl rfl aA (by kernel_rfl) ?_;rintro _ ⟨n2,rp,rfl,hn2⟩;refine aa ?_;(refine bu [_,_] (rvq) (by kernel_rfl) (⟨n2,rp,rfl,hn2⟩))
end
section
theorem yq (a:ef) (b:dv):(iG a b).height=b.hd.height∧(iG a b).time=b.hd.time∧(iG a b).hash=gi b.hd:=by
 unfold iG;simp only [nI,and_self]
theorem DO {t:dO} {b:dv} {n m:Int} (h:fA t b n m=0):(1≤n∧n≤8∧0≤t.height)∧(b.hd.height=t.height + 1∧b.hd.height≤1073741824)∧b.hd.prop=b.hd.height % n∧t.time < b.hd.time:=by
 unfold fA at h;by_cases h1:n < 1∨8 < n∨t.height < 0∨1073741824 < t.height
 ·rw [if_pos h1] at h;exact absurd h (by decide)
 rw [if_neg h1] at h;by_cases h2:b.hd.height≠t.height + 1∨1073741824 < b.hd.height
 ·rw [if_pos h2] at h;exact absurd h (by decide)
 rw [if_neg h2] at h;by_cases h3:b.hd.prop≠b.hd.height % n
 ·rw [if_pos h3] at h;exact absurd h (by decide)
 rw [if_neg h3] at h;by_cases h4:b.hd.time≤t.time∨1099511627776 < b.hd.time
 ·rw [if_pos h4] at h;exact absurd h (by decide)
 exact⟨⟨om,om,om⟩,⟨Decidable.not_not.1 (fun e=>h2 (.inl e)),om⟩,Decidable.not_not.1 h3,om⟩
theorem yt (nodes bytes:Int): ∀(l:List dv) (i:Nat) (a:ef) (t:dO),(repL nodes bytes l i a t).2.2.2=0→(repL nodes bytes l i a t).2.1.height=t.height + l.length∧t.time≤(repL nodes bytes l i a t).2.1.time∧(repL nodes bytes l i a t).2.2.1=0
 | [],i,a,t,_=>⟨by rw [repL];simp,by rw [repL];exact Int.le_refl _,rfl⟩
 | b :: l,i,a,t,h=>by
  rw [repL] at h ⊢
  by_cases hc:fA t b nodes bytes=0
  ·rw [if_neg (by rw [hc];simp)] at h ⊢
   obtain⟨h1,h2,h3⟩:=yt nodes bytes l _ _ _ h
   obtain⟨g1,g2,_⟩:=yq a b
   obtain⟨_,⟨k1,_⟩,_,k2⟩:=DO hc
   exact⟨by rw [h1,g1,k1,List.length_cons];omega,om,h3⟩
  ·rw [if_pos hc] at h
   exact absurd h hc
theorem DP (nodes bytes:Int): ∀(l r:List dv) (i:Nat) (a:ef) (t:dO),(repL nodes bytes (l ++ r) i a t).2.2.2=0→(repL nodes bytes l i a t).2.2.2=0
 | [],r,i,a,t,_=>rfl
 | b :: l,r,i,a,t,h=>by
  rw [List.cons_append,repL] at h
  rw [repL]
  by_cases hc:fA t b nodes bytes=0
  ·rw [if_neg (by rw [hc];simp)] at h ⊢
   exact DP nodes bytes l r _ _ _ h
  ·rw [if_pos hc] at h
   exact absurd h hc
theorem Cn {l:List dv} {k:Nat} (hk:k < l.length):l=l.take k ++ (l[k] :: l.drop (k + 1)):=by
 rw [← a₃ hk,List.take_append_drop]
theorem Co [NX:Nx] {bl:List dv} {L:dK} {t:dO} (h:IF bl L t) (hc:vA NX.c) (ht:t.time≤100000) {k:Nat} (hk:k < bl.length) {j:Nat} (hj:j < 3) :
  ∃(a:ef) (u:dO),repL NX.c.nodes NX.c.blkB (bl.take k) 0 (bm NX.acs NX.c.price).1 (iE (bm NX.acs NX.c.price).1.com)=(a,u,0,0)∧u≠t∧
   repL NX.c.nodes NX.c.blkB (bl.take k ++ [dU u (bl[k].hd.time + j) bl[k].hd.prop []]) 0 (bm NX.acs NX.c.price).1 (iE (bm NX.acs NX.c.price).1.com)=(iF a (dU u (bl[k].hd.time + j) bl[k].hd.prop []),iG a (dU u (bl[k].hd.time + j) bl[k].hd.prop []),0,0)∧
   (gi (dU u (bl[k].hd.time + j) bl[k].hd.prop []).hd≠gi bl[k].hd→iG a (dU u (bl[k].hd.time + j) bl[k].hd.prop [])≠t)∧
   (0≤u.height∧u.height≤1073741824)∧(0≤u.time∧u.time≤100000)∧(0≤bl[k].hd.time∧bl[k].hd.time≤100000):=by
 have hR:=h.h
 have hok:(repL NX.c.nodes NX.c.blkB bl 0 (bm NX.acs NX.c.price).1 (iE (bm NX.acs NX.c.price).1.com)).2.2.2=0:=by rw [hR]
 have hbl:=Cn hk
 rw [hbl] at hok hR
 have h1:=DP _ _ _ _ _ _ _ hok
 have h2:=qc NX.c.nodes NX.c.blkB (bl.take k) (bl[k] :: bl.drop (k + 1)) 0 _ _ h1
 obtain⟨t1,t2,t3⟩:=yt _ _ _ _ _ _ h1
 have hg:=(nA (bm NX.acs NX.c.price).1.com).2.1
 rw [h2] at hok hR
 generalize hx:repL NX.c.nodes NX.c.blkB (bl.take k) 0 (bm NX.acs NX.c.price).1 (iE (bm NX.acs NX.c.price).1.com)=x at *
 obtain⟨a,u,p,e⟩:=x
 dsimp only at *
 subst h1
 subst t3
 rw [hg,List.length_take,c₁ (Nat.le_of_lt hk)] at t1
 rw [repL] at hok hR
 by_cases hck:fA u bl[k] NX.c.nodes NX.c.blkB=0
 rotate_left
 ·rw [if_pos hck] at hok
  exact absurd hok hck
 rw [if_neg (by rw [hck];simp)] at hok hR
 obtain⟨⟨c1,c2,c3⟩,⟨c4,c5⟩,c6,c7⟩:=DO hck
 obtain⟨s1,s2,_⟩:=yt _ _ _ _ _ _ hok
 obtain⟨g1,g2,g3⟩:=yq a bl[k]
 rw [hR] at s1 s2
 dsimp only at s1 s2
 have hmk:Ce u (dU u (bl[k].hd.time + j) bl[k].hd.prop []):=Aw ⟨c1,c2⟩ ⟨c3,by omega⟩ (by rw [c6,c4]) (by split <;> omega) (by simp) (by have:=hc.blkB;simp [sumB];omega)
 obtain⟨g4,g5,g6⟩:=yq a (dU u (bl[k].hd.time + j) bl[k].hd.prop [])
 have hmh:=(qo u (bl[k].hd.time + j) bl[k].hd.prop []).1
 have hgt:=(nA (bm NX.acs NX.c.price).1.com).2.2
 refine⟨a,u,rfl,fun e=>?_,?_,fun hne e=>?_,om,om,om⟩
 ·rw [← e,g1] at s1
  omega
 ·rw [qc _ _ _ _ _ _ _ (by rw [hx]),hx]
  dsimp only
  rw [repL,if_neg (by rw [hmk.h];simp),repL]
 ·by_cases hl:(bl.drop (k + 1)).length=0
  ·have hd:bl.drop (k + 1)= [] :=List.eq_nil_of_length_eq_zero hl
   rw [hd,repL] at hR
   simp only [a₂] at hR
   have:=hR.2.1
   rw [← e] at this
   have h6:=congrArg dO.hash this
   rw [g3,g6] at h6
   exact hne h6.symm
  ·rw [← e,g4,hmh,g1,c4] at s1
   omega
theorem DQ [NX:Nx] {bl:List dv} (hc:vA NX.c) (h0:(bm NX.acs NX.c.price).2=0):AT NX.acs NX.c bl=((repL NX.c.nodes NX.c.blkB bl 0 (bm NX.acs NX.c.price).1 (iE (bm NX.acs NX.c.price).1.com)).1,(repL NX.c.nodes NX.c.blkB bl 0 (bm NX.acs NX.c.price).1 (iE (bm NX.acs NX.c.price).1.com)).2.1,(repL NX.c.nodes NX.c.blkB bl 0 (bm NX.acs NX.c.price).1 (iE (bm NX.acs NX.c.price).1.com)).2.2.1,((repL NX.c.nodes NX.c.blkB bl 0 (bm NX.acs NX.c.price).1 (iE (bm NX.acs NX.c.price).1.com)).2.2.2:Int)):=by
 unfold AT;rw [if_neg (by rw [uI hc];simp),if_neg (by rw [h0];simp)]
end
section
variable {G:GS}
attribute [local irreducible] ak aB aD aI aN vC aW aw
theorem Nk {t:dO} {b:dv} {n m:Int} (h:fA t b n m=0):b.hd.height=t.height + 1:=by
 by_cases h1:b.hd.height=t.height + 1
 ·exact h1
 ·exfalso;revert h;unfold fA;split
  ·simp
  ·rw [if_pos (.inl h1)];simp
theorem Lf (t:dO) (b:dv) (n m:Int):fA t b n m≤1000:=by
 unfold fA;(repeat' split) <;> omega
theorem wV [NX:Nx] {B:Nat} (n:oE) (b0:dv) (hn:fB B n) (h0:dI b0):bZ Tryz.prog G 162 [kG n, .sl (qb b0).length (u8s (qb b0))] (fun r=> ∃(b:dv) (e:Int),r= .tup [blkM b, .int .i64 e] ∧cj e∧dI b∧(e=0→Od b0 b∧b.hd.height=n.tip.height + 1∧Ce n.tip b)):=by
 have c0:=IC (G:=G) b0 h0;generalize qb b0=R at *;have hcf:=hn.st.cfg;unfold bZ;refine seq' seat Tryz.func162 30 ?_;refine aa ?_;refine aM (c0) rfl rfl aA (by kernel_rfl) ?_;rintro _ ⟨b,e,rfl,he,hb,hg⟩;refine aa ?_;refine ad rfl ?_ ?_ <;> intro h
 ·have hne:e≠0:=by simpa using h
  refine aa ?_;(refine bu [_,_] (rvq) (by kernel_rfl) (⟨b,e,rfl,he,hb,fun h=>absurd h hne⟩))
 ·have he0:e=0:=by simpa using h
  have hbn:=hb.n;have c1:=MH (G:=G) n.tip b n.st.cfg.nodes n.st.cfg.blkB hn.tip hb.hd (by have:=hcf.nodes;have:=hcf.self;unfold cj;omega) (by have:=hcf.blkB;unfold cj;omega) om (fun x hx=>by have:=hb.len x hx;omega);have hh:=fun h=>Nk (t:=n.tip) (b:=b) (n:=n.st.cfg.nodes) (m:=n.st.cfg.blkB) h
  have hl:=Lf n.tip b n.st.cfg.nodes n.st.cfg.blkB;have hq:fA n.tip b NX.c.nodes NX.c.blkB=fA n.tip b n.st.cfg.nodes n.st.cfg.blkB:=by rw [hn.st.fx.1]
  generalize fA n.tip b n.st.cfg.nodes n.st.cfg.blkB=q at *;refine aa ?_;refine al [ae 0,ae 1,ae 2,ae 3,ae 4,ae 5,ae 6,ae 7,ae 8,ae 9,ae 10,ae 11,dj 12,ae 13,ae 14] ?_;refine aa ?_;refine bQ rfl aA rfl [] (src (c1)) rfl [] trivial (bd _ (by kernel_rfl)) rfl ?_;refine aa ?_;(refine bu [_,_] (rvq) (by kernel_rfl) (⟨b,(q:Int),rfl,by unfold cj;omega,hb,fun h=>⟨hg he0,hh om,⟨hq.trans om⟩⟩⟩))
theorem Cp [NX:Nx] {B:Nat} (n:oE) (b0:dv) (hn:fB B n) (h0:dI b0):bZ Tryz.prog G 161 [kG n, .sl (qb b0).length (u8s (qb b0))] (ND B):=by
 have c0:=wV (G:=G) n b0 hn h0;generalize qb b0=R at *;have hcf:=hn.st.cfg;unfold bZ;refine seq' seat Tryz.func161 50 ?_;refine aa ?_;refine aM (c0) rfl rfl aA (by kernel_rfl) ?_;rintro _ ⟨b,e,rfl,he,hb,_⟩;refine aa ?_;refine ad rfl ?_ ?_ <;> intro h
 ·refine aa ?_;refine aM (dh n e hn) rfl rfl aA (by kernel_rfl) ?_;rintro _ ⟨n2,rp,rfl,hn2⟩;refine aa ?_;(refine bu [_,_] (rvq) (by kernel_rfl) (⟨n2,rp,rfl,hn2⟩))
 ·have cJ:=KH (G:=G) (FX:=_) n.st b.txs n.st.cfg.blkB n.st.cfg.blkG hn.st (by have:=hcf.blkB;unfold cj;omega) (by have:=hcf.blkG;unfold cj;omega) hb.n hb.len;have cH:=ow (G:=G) b.hd hb.hd;generalize gi b.hd=hk at *;refine aa ?_;refine aM (cJ) rfl rfl aA (by kernel_rfl) ?_;rintro _ ⟨v,rfl,hv⟩;refine aa ?_;refine ad rfl ?_ ?_ <;> intro h
  ·refine aa ?_;refine aM (dh n v hn) rfl rfl aA (by kernel_rfl) ?_;rintro _ ⟨n2,rp,rfl,hn2⟩;refine aa ?_;(refine bu [_,_] (rvq) (by kernel_rfl) (⟨n2,rp,rfl,hn2⟩))
  ·refine aa ?_;refine al [ae 0,ae 1,ae 2,ae 3,ae 4,ae 5,dj 6,ae 7,ae 8,ae 9] ?_;refine aa ?_;refine bQ rfl aA rfl [] (src (cH)) rfl [] trivial (bd _ (by kernel_rfl)) rfl ?_;refine aa ?_;(refine bu [_,_] (rvq) (by kernel_rfl) (⟨n,⟨_,_,_,(_,_),(_,_),(_,_),(_,_),(_,_),(_,_),_,_⟩,rfl,hn⟩))
theorem Lg [NX:Nx] {B:Nat} (n:oE) (hn:fB B n) (hB:B≤90000):bZ Tryz.prog G 163 [kG n] (ND B):=by
 have hb2:=IJ;have hse:=hn.st.ents;have cR:=Dh (G:=G) n.st.app;have hnd:fB B ⟨{ n.st with app:=qV n.st.app,ents:= [],cache:= [] },n.tip,n.blocks,a₀ 15 none,n.held,n.prop,n.log⟩:=⟨⟨hn.st.cfg,⟨hn.st.app.1,hn.st.app.1,hn.st.app.2.2⟩,hn.st.height,hn.st.time,hn.st.arr,a₄ _,fun e he=>(nomatch he),a₄ _,by simp [dD],hn.st.fx⟩,hn.tip,hn.th,hn.tt,hn.blocks,sm,by simp [ya],hn.prop,hn.ph,hn.pt,hn.log,hn.rep,hn.chk,hn.bok⟩;generalize qV n.st.app=a at *;unfold bZ;refine seq' seat Tryz.func163 37 ?_;refine aa ?_;refine av (Nat×List (List UInt8)) (fun x=> [(11, .int .i64 x.1),(10, .int .i64 n.st.ents.length),(9, .sl n.st.ents.length (n.st.ents.map bN)),(4, .ptr 3 73 0 0 []),(1, .ptr 0 259 0 0 []),(2, .ptr 1 259 0 0 []),(3, .ptr 2 73 0 0 [])])
  (fun x=> [(0,⟨120,259,false,0,[kG n]⟩),(1,⟨120,259,false,0,[KP]⟩),(2,⟨163,73,false,0,[Fh]⟩),(3,⟨163,73,false,0,[.st [.int .i64 0, .arr 32 1 k0, .int .u64 0, .nils, .nils, .nils, .nils, .ms 4 32 0 x.2.length, .nils, .int .i64 0, .arr 32 1 k0]]⟩),(4,⟨68,32,true,0,x.2.map keyM⟩)]) 5
  (fun x=>x.1≤n.st.ents.length∧x.2.length=x.1) (fun x=>n.st.ents.length - x.1) (0,[]) ⟨a₄ _,rfl⟩ (by dsimp only;exact(vm [(0,_),(1,_),(2,_),(3,_)] [])) ?_
 rintro⟨k,ks⟩ ⟨hki,hkl⟩;try dsimp only
 dsimp only at hki hkl;refine aa ?_;refine ad rfl ?_ ?_ <;> intro h
 ·have hk':k < n.st.ents.length:=by have:=ot h;omega
  have hel:=eG hk';generalize n.st.ents[k] =e at *;have hel:=aj.mk hel;obtain⟨K2,hK2⟩: ∃K2,K2=ks ++ [e.key] :=⟨_,rfl⟩
  have hK2l:K2.length=ks.length + 1:=by rw [hK2];simp
  refine aa ?_;refine aL rfl rfl (by intro R hR;refine cI hR ?_;(refine a₁ (a₅ _) ?_;refine⟨_,rfl,?_⟩;refine a₁ ⟨sm,ai (by kernel_rfl) pf⟩ ?_;refine⟨K2.map keyM,sv (by rw [hK2,a₉];rfl),K2.length,sv pf,?_⟩);exact hR) rfl ?_;refine aa ?_;exact⟨(k + 1,K2),⟨dm,dm⟩,dm,(by dsimp only;exact(vm [(0,_),(1,_),(2,_),(3,_),(4,_)] []))⟩
 ·refine aa ?_;refine aG (src (cR)) rfl rfl aA (by kernel_rfl) ?_;refine aa ?_;refine aL rfl rfl (by intro R hR;refine cI hR ?_;refine a₁ (Nat.le_trans (Nat.mul_le_mul_left _ (b₉ (hb2 _ rfl))) (by decide)) ?_;exact hR) rfl ?_;refine aa ?_;refine al [ae 0,ae 1,ae 2,ae 3] ?_;refine aa ?_;(refine Au [_,_] [kG ⟨{ n.st with app:=a,ents:= [],cache:= [] },n.tip,n.blocks,a₀ 15 none,n.held,n.prop,n.log⟩,LJ ⟨0,k0,0,(0,[]),(0,[]),(0,[]),(0,[]),(ks.length,ks.map keyM),(0,[]),0,k0⟩] [(4,ks.length),(18,15)] (rvq) ?_ ?_ (by kernel_rfl) (⟨_,_,rfl,hnd⟩))
  ·exact⟨by show ks.length≤(ks.map keyM).length;simp,a₅ 15,trivial⟩
  ·exact lm
end
section
variable {G:GS}
attribute [local irreducible] ak aB aD aI aN vC aW aw
theorem DS: ∀(l:List (Option (List (List UInt8)))),aY (l.map nJ) 1=true
 | [] =>rfl
 | none :: _=>rfl
 | some _ :: _=>rfl
theorem Lh {l:List (Option (List (List UInt8)))} {k:Nat} (hk:k < l.length):bF (l.map nJ) l.length (k:Int)=some (nJ l[k]):=cO hk (by simp [hk])
theorem wW: ∀l:Option (List (List UInt8)),(nJ l).idFree=true
 | none=>rfl
 | some _=>rfl
theorem qp: ∀l:List (Option (List (List UInt8))),MV.idFrees (l.map nJ)=true
 | [] =>rfl
 | a :: l=>by
  show((nJ a).idFree && MV.idFrees (l.map nJ))=true
  rw [wW a,qp l]
  rfl
theorem Cq {σ:Nat→Option Nat} {fz:Fz} {v:MV} {ks:List (List UInt8)} (hv:eu σ fz (nJ (some ks)) v): ∀(s:List (Option (List (List UInt8)))) (p:Nat),eu.relVs σ fz ((s.set p (some ks)).map nJ) ((s.map nJ).set p v)
 | [],_=>trivial
 | a :: s,0=>⟨hv,bd _ (qp s)⟩
 | a :: s,p + 1=>⟨gz _ (wW a),Cq hv s p⟩
theorem Nl [NX:Nx] {B:Nat} (n:oE) (peer:Int) (hn:fB B n) (hB:B≤90000) (hp:1≤peer∧peer≤15):bZ Tryz.prog G 164 [kG n, .int .i64 peer] (ND (B + 1)):=by
 have hm:=hn.mono (B':=B + 1) om;have hse:=hn.st.ents;have hsl:=hn.sent;obtain⟨p,hpe⟩: ∃p:Nat,peer - 1=p:=⟨(peer - 1).toNat,om⟩
 have hp15:p < n.sent.length:=om;have hel:aj (bF (n.sent.map nJ) n.sent.length (peer - 1)) (nJ n.sent[p]):=by rw [hpe];exact aj.mk (Lh hp15)
 have hix:aj (A4 n.sent.length (peer - 1)) p:=by rw [hpe];exact aj.mk (cE hp15)
 have hnt:aj (bW (n.sent.map nJ) (0 + p)) (nJ n.sent[p]):=aj.mk (by rw [bS,a₇];simp [hp15]);have hkl:=hn.sk _ (b₁ hp15);have hne:bE (n.sent.map nJ≠ []):=bE.mk (by intro h;rw [List.map_eq_nil_iff] at h;rw [h] at hsl;cases hsl);have heok: ∀e∈n.st.ents,e.key.length=32∧e.peers.length < 1000000000∧e.raw.length≤1000000:=fun e he=>by
  have:=hn.st.entk e he;exact⟨this.key,by have:=this.peers;omega,by have:=this.raw;omega⟩
 generalize n.sent[p] =l at *;cases l with
 | none=>
  replace hkl:dD ([] :List (List UInt8))∧([] :List (List UInt8)).length≤B:=⟨by simp [dD],a₄ _⟩;have c1:=IA (G:=G) n.st.ents peer [] hkl.1 sm om heok;have hrl:=uN peer [] n.st.ents (fun e he=>(hn.st.entk e he).raw);generalize kF peer [] n.st.ents=nx at *;obtain⟨raw,ok⟩:=nx;dsimp only at c1 hrl;have c2:=mj (G:=G) raw om;have hq:=eJ raw;generalize gP raw=q at *;obtain⟨K2,hK2⟩: ∃K2,K2= [] ++ [q] :=⟨_,rfl⟩
  have hK2l:K2.length=0 + 1:=by rw [hK2];simp
  have hK2k:dD K2∧K2.length≤B + 1:=by
   refine⟨?_,by have:=hkl.2;omega⟩;intro x hx;rw [hK2] at hx;rcases c₈.1 hx with hx | hx
   ·exact hkl.1 x hx
   ·rw [c₅.1 hx];exact hq
  obtain⟨S2,hS2⟩: ∃S2,S2=n.sent.set p (some K2):=⟨_,rfl⟩
  have hS2l:S2.length=n.sent.length:=by rw [hS2,b₅]
  have hnd:fB (B + 1) ⟨n.st,n.tip,n.blocks,S2,n.held,n.prop,n.log⟩:=⟨hm.st,hm.tip,hm.th,hm.tt,hm.blocks,dm,fun l hl=>by
   dsimp only at hl;rw [hS2] at hl;rcases b₈ hl with hl | rfl
   ·exact hm.sk l hl
   ·exact hK2k,hm.prop,hm.ph,hm.pt,hm.log,hm.rep,hm.chk,hm.bok⟩
  unfold bZ;refine seq' seat Tryz.func164 57 ?_;refine aa ?_;refine al [ae 0,ae 1,ae 2,ae 3,ae 4,ae 5,ae 6,ae 7,ae 8,ae 9,dj 10,ae 11,ae 12,ae 13,ae 14,ae 15] ?_;refine aa ?_;refine pF (c1) ?_;cases ok with
  | false=>
   refine aa ?_;refine aM (dh n 7 hm) rfl rfl aA (by kernel_rfl) ?_;rintro _ ⟨n2,rp,rfl,hn2⟩;refine aa ?_;(refine bu [_,_] (rvq) (by kernel_rfl) (⟨n2,rp,rfl,hn2⟩))
  | true=>
   refine aa ?_;refine aG (src (c2)) rfl rfl aA (by kernel_rfl) ?_;refine aa ?_;refine aL rfl rfl (by intro R hR;refine cI hR ?_;refine a₁ ((DS _)) ?_;refine a₁ ⟨rfl,ai (by kernel_rfl) pf⟩ ?_;refine⟨n.sent.map nJ,sv (by rfl),n.sent.length,sv pf,?_⟩;exact hR) rfl ?_;refine Nu ?_;refine wG ([(1, .int .i64 peer),(2, .ptr 0 259 0 0 []),(4, .ptr 1 259 0 0 []),(5, .ptr 2 73 0 0 []),(6, .sl raw.length (u8s raw)),(8, .ptr 3 32 0 0 []),(9, .ms 4 1 0 n.sent.length)]) ([(0,⟨120,259,false,0,[kG n]⟩),(1,⟨120,259,false,0,[KP]⟩),(2,⟨163,73,false,0,[Fh]⟩),(3,⟨68,32,false,0,[keyM q]⟩),(4,⟨73,1,false,0,n.sent.map nJ⟩)]) (5) (vm [(0,_),(1,_),(2,_),(3,_),(4,_)] []) ?_;refine tK ?_;refine al [ae 0,ae 1,ae 2,ae 3,ae 4,ae 5,ae 6,ae 7,ae 8,ae 9,ae 10,ae 11,ae 12,ae 13,ae 14] ?_;refine aa ?_;refine aZ rfl (by intro R hR;refine cI hR ?_;(refine a₁ ⟨rfl,ai (by kernel_rfl) pf⟩ ?_;refine⟨[],sv rfl,0,sv pf,?_⟩);exact hR) rfl ?_;refine aa ?_;refine aZ rfl (by intro R hR;refine cI hR ?_;(refine a₁ (a₅ _) ?_;refine⟨_,rfl,?_⟩;refine a₁ ⟨sm,ai (by kernel_rfl) pf⟩ ?_;refine⟨K2.map keyM,sv (by rw [hK2,a₉];rfl),K2.length,sv pf,?_⟩);exact hR) rfl ?_;iterate 4 (refine Lt ?_)
   delta aW
   rw [← hS2l];refine Rs.re [(2, .ptr 0 259 0 0 []),(4, .ptr 1 259 0 0 []),(5, .ptr 2 73 0 0 []),(6, .sl raw.length (u8s raw)),(8, .ptr 3 32 0 0 []),(9, .ms 4 1 0 S2.length)] [(4,⟨73,1,true,0,S2.map nJ⟩),(0,⟨120,259,false,0,[kG n]⟩),(1,⟨120,259,false,0,[KP]⟩),(2,⟨163,73,false,0,[Fh]⟩),(3,⟨68,32,false,0,[keyM q]⟩)] 5 (gI.of [(0,0),(1,1),(2,2),(3,3),(4,4)] [(17,K2.length)] mm ?_ rfl ⟨by show K2.length≤(K2.map keyM).length;simp,trivial⟩ rfl) ?_
   ·refine⟨.inr ⟨_,_,rfl,rfl,rfl,rfl, .inr (.inr ⟨rfl,rfl,qp S2⟩), .inl rfl, .inr ?_⟩,mm⟩;rw [hS2]
    show eu.relVs _ _ _ (setL (n.sent.map nJ) (0 + p) (.ms 17 32 0 K2.length))
    rw [setL_eq,a₇];refine Cq ?_ n.sent p;exact .inr ⟨rfl,rfl,rfl,b₉ (a₇ _),bc keyM K2⟩
   iterate 1 (refine Lt ?_)
   refine od ([(2, .ptr 0 259 0 0 []),(4, .ptr 1 259 0 0 []),(5, .ptr 2 73 0 0 []),(6, .sl raw.length (u8s raw)),(8, .ptr 3 32 0 0 []),(9, .sl S2.length (S2.map nJ))]) ([(0,⟨120,259,false,0,[kG n]⟩),(1,⟨120,259,false,0,[KP]⟩),(2,⟨163,73,false,0,[Fh]⟩),(3,⟨68,32,false,0,[keyM q]⟩)]) [(4,S2.length)] mm rfl mm mm ?_;refine aa ?_;refine al [ae 0,ae 1,ae 2,ae 3,ae 4,ae 5,ae 6] ?_;refine aa ?_;(refine Au [_,_] [kG ⟨n.st,n.tip,n.blocks,S2,n.held,n.prop,n.log⟩,LJ ⟨0,u8s q,0,(0,[]),(0,[]),(0,[]),(0,[]),(0,[]),(1,[bk raw]),0,k0⟩] [(11,1)] (rvq) ?_ ?_ (by kernel_rfl) (⟨_,_,rfl,hnd⟩))
   ·exact⟨a₅ 1,trivial⟩
   ·exact lm
 | some ks=>
  replace hkl:dD ks∧ks.length≤B:=hkl;have c1:=IA (G:=G) n.st.ents peer ks hkl.1 (by have:=hkl.2;omega) om heok;have hrl:=uN peer ks n.st.ents (fun e he=>(hn.st.entk e he).raw);generalize kF peer ks n.st.ents=nx at *;obtain⟨raw,ok⟩:=nx;dsimp only at c1 hrl;have c2:=mj (G:=G) raw om;have hq:=eJ raw;generalize gP raw=q at *;obtain⟨K2,hK2⟩: ∃K2,K2=ks ++ [q] :=⟨_,rfl⟩
  have hK2l:K2.length=ks.length + 1:=by rw [hK2];simp
  have hK2k:dD K2∧K2.length≤B + 1:=by
   refine⟨?_,by have:=hkl.2;omega⟩;intro x hx;rw [hK2] at hx;rcases c₈.1 hx with hx | hx
   ·exact hkl.1 x hx
   ·rw [c₅.1 hx];exact hq
  obtain⟨S2,hS2⟩: ∃S2,S2=n.sent.set p (some K2):=⟨_,rfl⟩
  have hS2l:S2.length=n.sent.length:=by rw [hS2,b₅]
  have hnd:fB (B + 1) ⟨n.st,n.tip,n.blocks,S2,n.held,n.prop,n.log⟩:=⟨hm.st,hm.tip,hm.th,hm.tt,hm.blocks,dm,fun l hl=>by
   dsimp only at hl;rw [hS2] at hl;rcases b₈ hl with hl | rfl
   ·exact hm.sk l hl
   ·exact hK2k,hm.prop,hm.ph,hm.pt,hm.log,hm.rep,hm.chk,hm.bok⟩
  unfold bZ;refine seq' seat Tryz.func164 57 ?_;refine aa ?_;refine al [ae 0,ae 1,ae 2,ae 3,ae 4,ae 5,ae 6,ae 7,ae 8,ae 9,dj 10,ae 11,ae 12,ae 13,ae 14,ae 15] ?_;refine aa ?_;refine pF (c1) ?_;cases ok with
  | false=>
   refine aa ?_;refine aM (dh n 7 hm) rfl rfl aA (by kernel_rfl) ?_;rintro _ ⟨n2,rp,rfl,hn2⟩;refine aa ?_;(refine bu [_,_] (rvq) (by kernel_rfl) (⟨n2,rp,rfl,hn2⟩))
  | true=>
   refine aa ?_;refine aG (src (c2)) rfl rfl aA (by kernel_rfl) ?_;refine aa ?_;refine aL rfl rfl (by intro R hR;refine cI hR ?_;refine a₁ ((DS _)) ?_;refine a₁ ⟨rfl,ai (by kernel_rfl) pf⟩ ?_;refine⟨n.sent.map nJ,sv (by rfl),n.sent.length,sv pf,?_⟩;exact hR) rfl ?_;refine Nu ?_;refine wG ([(1, .int .i64 peer),(2, .ptr 0 259 0 0 []),(4, .ptr 1 259 0 0 []),(5, .ptr 2 73 0 0 []),(6, .sl raw.length (u8s raw)),(8, .ptr 3 32 0 0 []),(9, .ms 4 1 0 n.sent.length)]) ([(0,⟨120,259,false,0,[kG n]⟩),(1,⟨120,259,false,0,[KP]⟩),(2,⟨163,73,false,0,[Fh]⟩),(3,⟨68,32,false,0,[keyM q]⟩),(4,⟨73,1,false,0,n.sent.map nJ⟩)]) (5) (vm [(0,_),(1,_),(2,_),(3,_),(4,_)] []) ?_;refine tK ?_;refine al [ae 0,ae 1,ae 2,ae 3,ae 4,ae 5,ae 6,ae 7,ae 8,ae 9,ae 10,ae 11,ae 12,ae 13,ae 14] ?_;refine aa ?_;refine aZ rfl (by intro R hR;refine cI hR ?_;refine a₁ ((gA ks)) ?_;refine a₁ ⟨rfl,ai (by kernel_rfl) pf⟩ ?_;refine⟨ks.map keyM,sv (by rfl),ks.length,sv pf,?_⟩;exact hR) rfl ?_;refine aa ?_;refine aZ rfl (by intro R hR;refine cI hR ?_;(refine a₁ (a₅ _) ?_;refine⟨_,rfl,?_⟩;refine a₁ ⟨sm,ai (by kernel_rfl) pf⟩ ?_;refine⟨K2.map keyM,sv (by rw [hK2,a₉];rfl),K2.length,sv pf,?_⟩);exact hR) rfl ?_;iterate 4 (refine Lt ?_)
   delta aW
   rw [← hS2l];refine Rs.re [(2, .ptr 0 259 0 0 []),(4, .ptr 1 259 0 0 []),(5, .ptr 2 73 0 0 []),(6, .sl raw.length (u8s raw)),(8, .ptr 3 32 0 0 []),(9, .ms 4 1 0 S2.length)] [(4,⟨73,1,true,0,S2.map nJ⟩),(0,⟨120,259,false,0,[kG n]⟩),(1,⟨120,259,false,0,[KP]⟩),(2,⟨163,73,false,0,[Fh]⟩),(3,⟨68,32,false,0,[keyM q]⟩)] 5 (gI.of [(0,0),(1,1),(2,2),(3,3),(4,4)] [(17,K2.length)] mm ?_ rfl ⟨by show K2.length≤(K2.map keyM).length;simp,trivial⟩ rfl) ?_
   ·refine⟨.inr ⟨_,_,rfl,rfl,rfl,rfl, .inr (.inr ⟨rfl,rfl,qp S2⟩), .inl rfl, .inr ?_⟩,mm⟩;rw [hS2]
    show eu.relVs _ _ _ (setL (n.sent.map nJ) (0 + p) (.ms 17 32 0 K2.length))
    rw [setL_eq,a₇];refine Cq ?_ n.sent p;exact .inr ⟨rfl,rfl,rfl,b₉ (a₇ _),bc keyM K2⟩
   iterate 1 (refine Lt ?_)
   refine od ([(2, .ptr 0 259 0 0 []),(4, .ptr 1 259 0 0 []),(5, .ptr 2 73 0 0 []),(6, .sl raw.length (u8s raw)),(8, .ptr 3 32 0 0 []),(9, .sl S2.length (S2.map nJ))]) ([(0,⟨120,259,false,0,[kG n]⟩),(1,⟨120,259,false,0,[KP]⟩),(2,⟨163,73,false,0,[Fh]⟩),(3,⟨68,32,false,0,[keyM q]⟩)]) [(4,S2.length)] mm rfl mm mm ?_;refine aa ?_;refine al [ae 0,ae 1,ae 2,ae 3,ae 4,ae 5,ae 6] ?_;refine aa ?_;(refine Au [_,_] [kG ⟨n.st,n.tip,n.blocks,S2,n.held,n.prop,n.log⟩,LJ ⟨0,u8s q,0,(0,[]),(0,[]),(0,[]),(0,[]),(0,[]),(1,[bk raw]),0,k0⟩] [(11,1)] (rvq) ?_ ?_ (by kernel_rfl) (⟨_,_,rfl,hnd⟩))
   ·exact⟨a₅ 1,trivial⟩
   ·exact lm
end
section
variable {G:GS}
attribute [local irreducible] ak aB aD aI aN vC aW aw
abbrev so (k n b g:Int) (raw:List UInt8):MV:= .st [.int .i64 k, .int .i64 n, .int .i64 b, .int .i64 g, .sl raw.length (u8s raw)]
theorem fB.with_st [NX:Nx] {B:Nat} {n:oE} {s:jC} (h:fB B n) (hs: @dV (Nw n.st.app.com) B s):fB B ⟨s,n.tip,n.blocks,n.sent,n.held,n.prop,n.log⟩:=by
 have he:s.app.com=n.st.app.com:=hs.fx.2.1;exact⟨by rw [← he] at hs;exact hs,h.tip,h.th,h.tt,h.blocks,h.sent,h.sk,h.prop,h.ph,h.pt,h.log,by have:=h.rep;rw [← he] at this;exact this,h.chk,h.bok⟩
theorem Om [NX:Nx] {B:Nat} (n:oE) (on ob og:Int) (raw:List UInt8) (hn:fB B n) (hB:B≤80000) (hr:raw.length≤4096):bZ Tryz.prog G 104 [kG n,so 1 on ob og raw] (ND (B + 1)):=by
 have hm:=hn.mono (B':=B + 1) om;unfold bZ;refine seq' seat Tryz.func104 157 ?_;refine aa ?_;refine ag rfl rfl ?_ rfl ?_ <;> intro h
 all_goals
  refine aa ?_
  refine aM (Ar (G:=G) (FX:=_) n.st raw 0 (by omega) hn.st (by omega)) rfl rfl aA (by kernel_rfl) ?_
  rintro _ ⟨s2,rp,rfl,hs2⟩
  refine aa ?_
  refine al [ae 0,ae 1,ae 2,ae 3] ?_
  refine aa ?_
  (refine bu [_,_] (rvq) (by kernel_rfl) (⟨⟨s2,n.tip,n.blocks,n.sent,n.held,n.prop,n.log⟩,rp,rfl,hm.with_st hs2⟩))
theorem On [NX:Nx] {B:Nat} (n:oE) (on ob og:Int) (raw:List UInt8) (hn:fB B n) (hB:B≤80000) (hr:raw.length≤4096):bZ Tryz.prog G 104 [kG n,so 2 on ob og raw] (ND (B + 1)):=by
 have hm:=hn.mono (B':=B + 1) om;unfold bZ;refine seq' seat Tryz.func104 157 ?_;refine aa ?_;refine ag rfl rfl ?_ rfl ?_ <;> intro h
 ·refine aa ?_;refine ad rfl ?_ ?_ <;> intro h
  ·refine aa ?_;refine aM (dh n 1 hm) rfl rfl aA (by kernel_rfl) ?_;rintro _ ⟨n2,rp,rfl,hn2⟩;refine aa ?_;(refine bu [_,_] (rvq) (by kernel_rfl) (⟨n2,rp,rfl,hn2⟩))
  ·refine aa ?_;refine aM (Ar (G:=G) (FX:=_) n.st raw on om hn.st om) rfl rfl aA (by kernel_rfl) ?_;rintro _ ⟨s2,rp,rfl,hs2⟩;refine aa ?_;refine al [ae 0,ae 1,ae 2,ae 3] ?_;refine aa ?_;(refine bu [_,_] (rvq) (by kernel_rfl) (⟨⟨s2,n.tip,n.blocks,n.sent,n.held,n.prop,n.log⟩,rp,rfl,hm.with_st hs2⟩))
 ·refine aa ?_;refine aM (dh n 1 hm) rfl rfl aA (by kernel_rfl) ?_;rintro _ ⟨n2,rp,rfl,hn2⟩;refine aa ?_;(refine bu [_,_] (rvq) (by kernel_rfl) (⟨n2,rp,rfl,hn2⟩))
theorem Oo [NX:Nx] {B:Nat} (n:oE) (on ob og:Int) (raw:List UInt8) (hn:fB B n) (hB:B≤80000) (ht: -9223372036854775808≤on∧on≤100):bZ Tryz.prog G 104 [kG n,so 3 on ob og raw] (ND (B + 1)):=by
 have hm:=hn.mono (B':=B + 1) om;have hst:=hn.st.time;unfold bZ;refine seq' seat Tryz.func104 157 ?_;refine aa ?_;refine ag rfl rfl ?_ rfl ?_ <;> intro h
 all_goals
  refine aa ?_
  refine ag rfl rfl ?_ rfl ?_ <;> intro h
  ·have q1:=oF h
   refine aa ?_
   refine ad rfl ?_ ?_ <;> intro h
   ·refine aa ?_
    refine aM (dh n 1 hm) rfl rfl aA (by kernel_rfl) ?_
    rintro _ ⟨n2,rp,rfl,hn2⟩
    refine aa ?_
    (refine bu [_,_] (rvq) (by kernel_rfl) (⟨n2,rp,rfl,hn2⟩))
   ·refine aa ?_
    refine al [ae 0,ae 1,ae 2,ae 3] ?_
    refine aa ?_
    (refine bu [_,_] (rvq) (by kernel_rfl) (⟨⟨{ n.st with time:=n.st.time + on },n.tip,n.blocks,n.sent,n.held,n.prop,n.log⟩,⟨_,_,_,(_,_),(_,_),(_,_),(_,_),(_,_),(_,_),_,_⟩,rfl,hm.with_st ⟨hm.st.cfg,hm.st.app,hm.st.height,by dsimp only;omega,hm.st.arr,hm.st.ents,hm.st.entk,hm.st.cache,hm.st.ck,hm.st.fx⟩⟩))
  ·refine aa ?_
   refine aM (dh n 1 hm) rfl rfl aA (by kernel_rfl) ?_
   rintro _ ⟨n2,rp,rfl,hn2⟩
   refine aa ?_
   (refine bu [_,_] (rvq) (by kernel_rfl) (⟨n2,rp,rfl,hn2⟩))
theorem Oq [NX:Nx] {B:Nat} (n:oE) (on ob og:Int) (raw:List UInt8) (hn:fB B n) (hB:B≤80000) (h1:cj ob) (h2:cj og):bZ Tryz.prog G 104 [kG n,so 4 on ob og raw] (ND (B + 1)):=by
 have hm:=hn.mono (B':=B + 1) om;unfold bZ;refine seq' seat Tryz.func104 157 ?_;refine aa ?_;refine ag rfl rfl ?_ rfl ?_ <;> intro h
 all_goals
  refine aa ?_
  refine aM (FT (G:=G) n ⟨4,on,ob,og,raw⟩ hn (by omega) h1 h2) rfl rfl aA (by kernel_rfl) ?_
  rintro _ ⟨n2,rp,rfl,hn2⟩
  refine aa ?_
  (refine bu [_,_] (rvq) (by kernel_rfl) (⟨n2,rp,rfl,hn2⟩))
theorem Ot [NX:Nx] {B:Nat} (n:oE) (on ob og:Int) (raw:List UInt8) (hn:fB B n) (hB:B≤80000):bZ Tryz.prog G 104 [kG n,so 5 on ob og raw] (ND (B + 1)):=by
 have hm:=hn.mono (B':=B + 1) om;obtain⟨nst,ntip,nblocks,nsent,hh,nprop,nlog⟩:=n;unfold bZ;refine seq' seat Tryz.func104 157 ?_;refine aa ?_;refine ag rfl rfl ?_ rfl ?_ <;> intro h
 all_goals
  cases hh with
  | false=>
   refine aa ?_
   refine aM (dh ⟨nst,ntip,nblocks,nsent,false,nprop,nlog⟩ 9 hm) rfl rfl aA (by kernel_rfl) ?_
   rintro _ ⟨n2,rp,rfl,hn2⟩
   refine aa ?_
   (refine bu [_,_] (rvq) (by kernel_rfl) (⟨n2,rp,rfl,hn2⟩))
  | true=>
   refine aa ?_
   refine aM (Ax (G:=G) ⟨nst,ntip,nblocks,nsent,true,nprop,nlog⟩ nprop hn (by omega) hn.prop (by have:=hn.ph;dsimp only at this;omega) (by have:=hn.pt;dsimp only at this;omega) (hn.chk rfl)) rfl rfl aA (by kernel_rfl) ?_
   rintro _ ⟨n2,rp,rfl,hn2⟩
   refine aa ?_
   (refine bu [_,_] (rvq) (by kernel_rfl) (⟨n2,rp,rfl,hn2⟩))
theorem Ou [NX:Nx] {B:Nat} (n:oE) (on ob og:Int) (raw:List UInt8) (hn:fB B n) (hB:B≤80000) (b0:dv) (h0:dI b0) (hr:raw=qb b0):bZ Tryz.prog G 104 [kG n,so 6 on ob og raw] (ND (B + 1)):=by
 have hm:=hn.mono (B':=B + 1) om;have cV:=Cp (G:=G) n b0 hn h0;rw [← hr] at cV;unfold bZ;refine seq' seat Tryz.func104 157 ?_;refine aa ?_;refine ag rfl rfl ?_ rfl ?_ <;> intro h
 all_goals
  refine aa ?_
  refine aM (cV) rfl rfl aA (by kernel_rfl) ?_
  rintro _ ⟨n2,rp,rfl,hn2⟩
  refine aa ?_
  (refine bu [_,_] (rvq) (by kernel_rfl) (⟨n2,rp,rfl,hn2.mono (by omega)⟩))
theorem Ov [NX:Nx] {B:Nat} (n:oE) (on ob og:Int) (raw:List UInt8) (hn:fB B n) (hB:B≤80000) (b0:dv) (h0:dI b0) (hr:raw=qb b0) (hbt:b0.hd.time≤100 * (B + 1)):bZ Tryz.prog G 104 [kG n,so 7 on ob og raw] (ND (B + 1)):=by
 have hm:=hn.mono (B':=B + 1) om;have cV:=wV (G:=G) n b0 hn h0;rw [← hr] at cV;have hth:=hn.th;unfold bZ;refine seq' seat Tryz.func104 157 ?_;refine aa ?_;refine ag rfl rfl ?_ rfl ?_ <;> intro h
 all_goals
  refine aa ?_
  refine aM (cV) rfl rfl aA (by kernel_rfl) ?_
  rintro _ ⟨b,e,rfl,he,hb,hg⟩
  refine aa ?_
  refine ad rfl ?_ ?_ <;> intro h
  ·refine aa ?_
   refine aM (dh n e hm) rfl rfl aA (by kernel_rfl) ?_
   rintro _ ⟨n2,rp,rfl,hn2⟩
   refine aa ?_
   (refine bu [_,_] (rvq) (by kernel_rfl) (⟨n2,rp,rfl,hn2⟩))
  ·have he0:e=0:=by simpa using h
   obtain⟨g1,g2,g3⟩:=hg he0
   have hbh:b.hd.height≤B + 1:=by omega
   have hbt2:b.hd.time≤100 * (B + 1):=by have:=g1.t2;unfold natP at this;omega
   refine aa ?_
   refine aM (Ax (G:=G) n b hn (by omega) hb hbh hbt2 g3) rfl rfl aA (by kernel_rfl) ?_
   rintro _ ⟨n2,rp,rfl,hn2⟩
   refine aa ?_
   (refine bu [_,_] (rvq) (by kernel_rfl) (⟨n2,rp,rfl,hn2⟩))
theorem Ow [NX:Nx] {B:Nat} (n:oE) (on ob og:Int) (raw:List UInt8) (hn:fB B n) (hB:B≤80000):bZ Tryz.prog G 104 [kG n,so 8 on ob og raw] (ND (B + 1)):=by
 have hm:=hn.mono (B':=B + 1) om;unfold bZ;refine seq' seat Tryz.func104 157 ?_;refine aa ?_;refine ag rfl rfl ?_ rfl ?_ <;> intro h
 all_goals
  refine aa ?_
  refine aM (Lg (G:=G) n hn (by omega)) rfl rfl aA (by kernel_rfl) ?_
  rintro _ ⟨n2,rp,rfl,hn2⟩
  refine aa ?_
  (refine bu [_,_] (rvq) (by kernel_rfl) (⟨n2,rp,rfl,hn2.mono (by omega)⟩))
theorem Ox [NX:Nx] {B:Nat} (n:oE) (on ob og:Int) (raw:List UInt8) (hn:fB B n) (hB:B≤80000):bZ Tryz.prog G 104 [kG n,so 9 on ob og raw] (ND (B + 1)):=by
 have hm:=hn.mono (B':=B + 1) om;unfold bZ;refine seq' seat Tryz.func104 157 ?_;refine aa ?_;refine ag rfl rfl ?_ rfl ?_ <;> intro h
 ·have q0:=ot h;refine aa ?_;refine ad rfl ?_ ?_ <;> intro h
  ·refine aa ?_;refine aM (dh n 1 hm) rfl rfl aA (by kernel_rfl) ?_;rintro _ ⟨n2,rp,rfl,hn2⟩;refine aa ?_;(refine bu [_,_] (rvq) (by kernel_rfl) (⟨n2,rp,rfl,hn2⟩))
  ·have q1:on≤15:=by simpa using h
   refine aa ?_;refine aM (Nl (G:=G) n on hn om ⟨q0,q1⟩) rfl rfl aA (by kernel_rfl) ?_;rintro _ ⟨n2,rp,rfl,hn2⟩;refine aa ?_;(refine bu [_,_] (rvq) (by kernel_rfl) (⟨n2,rp,rfl,hn2⟩))
 ·refine aa ?_;refine aM (dh n 1 hm) rfl rfl aA (by kernel_rfl) ?_;rintro _ ⟨n2,rp,rfl,hn2⟩;refine aa ?_;(refine bu [_,_] (rvq) (by kernel_rfl) (⟨n2,rp,rfl,hn2⟩))
end
end Go.Proofs.YtohikcplmbkmeaaGreatDoor
