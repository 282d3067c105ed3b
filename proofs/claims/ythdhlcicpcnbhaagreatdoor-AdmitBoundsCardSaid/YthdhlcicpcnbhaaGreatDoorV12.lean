/- Parts of a proof, one behind the other: WV, WX, WY, WZ, Z2, XA, Y9, YC, YD, YE, Z1, YB, Rc, YF, YH, YG, YI, Opens, Opn, YK. -/
import Derived.Test.YthdhlcicpcnbhaaGreatDoorV11
open List renaming replicate → a₀,mem_singleton → a₃,length_singleton → a₄,length_append → a₅,range → a₇,mem_map → a₈,getElem?_eq_getElem → a₉,length_map → b₂,mem_range → b₄,getElem?_eq_none → b₆,mem_append → b₈,mem_cons_of_mem → b₉,mem_cons_self → c₀,getElem?_append_right → c₁,mem_cons → c₂,getElem?_append_left → c₃,getElem?_eq_some_iff → c₄,getElem_mem → c₅,map_append → c₆,mem_of_getElem? → c₇,map_cons → c₈,ext_getElem? → d₁,getElem?_map → d₂,length_range → d₄,all_append → d₆
open Nat renaming zero_le → a₁,le_of_ble_eq_true → a₆,zero_add → b₀,le_of_eq → b₃,le_refl → b₅,mul_le_mul_right → b₇,lt_of_lt_of_le → c₉,beq_refl → d₀
open And renaming intro → a₂
open Prod.mk renaming injEq → b₁
open Int renaming toNat_natCast → d₃
open Bool renaming and_eq_true → d₅
set_option maxRecDepth 20000
set_option maxHeartbeats 16000000
set_option linter.unusedVariables false
set_option linter.unusedSimpArgs false
namespace Go.Proofs.YthdhlcicpcnbhaaGreatDoor
open Go.RowKit
section
open Go.RowKit Go.Lib Go.Shelf Go.Sort
variable {G:GS}
theorem encA_len (a:aW):(ja a).length=3:=rfl
theorem Mw {w:World} {P:bE} {adr:er} {a:aW} {p:List Value} (h:bI w P adr (bd a) p):p=ja a:=by
 unfold bd at h;cases h with
 | st parts hp hr=>
  match parts,hp with
  | [p1,p2,p3],_=>
   have h1:=hr 0 _ p1 rfl rfl;have h2:=hr 1 _ p2 rfl rfl;have h3:=hr 2 _ p3 rfl rfl;cases h1;cases h2;cases h3;rfl
theorem Mx (w:World) (P:bE) (adr:er) (a:aW):bI w P adr (bd a) (ja a):=by
 have h:bI w P adr (.st [.str a.name, .int .u64 a.bal, .int .u64 a.seq]) ([[.string ⟨a.name.toArray⟩],[.int .u64 a.bal],[.int .u64 a.seq]] :List (List Value)).flatten:= .st _ rfl (fun j m p hm hp=>by
  match j with
  | 0=>simp at hm hp;subst hm;subst hp;exact .str
  | 1=>simp at hm hp;subst hm;subst hp;exact .int
  | 2=>simp at hm hp;subst hm;subst hp;exact .int
  | j + 3=>simp at hm)
 exact h
theorem xf {w:World} {P:bE} {adr:er}: ∀{l:List aW} {Q:List (List Value)},Q.length=(l.map bd).length→(∀(j:Nat) x p,(l.map bd)[j]? =some x→Q[j]? =some p→bI w P adr x p)→Q=l.map ja
 | [],[],_,_=>rfl
 | [],_ :: _,h,_=>by simp at h
 | _ :: _,[],h,_=>by simp at h
 | a :: l,q :: Q,h,hr=>by
  rw [Mw (hr 0 _ q rfl rfl),c₈,xf (l:=l) (Q:=Q) (by simpa using h) fun j x p hx hp=>hr (j + 1) x p (by simpa using hx) (by simpa using hp)]
theorem BA: ∀(l:List aW) (j:Nat),j < l.length * 3→(l.map ja).flatten[j]? =(ja (l.getD (j / 3) ac0))[j % 3]?
 | [],j,h=>by simp at h
 | a :: l,j,h=>by
  rw [c₈,List.flatten_cons]
  by_cases hj:j < 3
  ·rw [c₃ (by rw [encA_len];exact hj),show j / 3=0 by omega,show j % 3=j by omega]
   rfl
  ·have h':j - 3 < l.length * 3:=by simp at h;omega
   rw [c₁ (by rw [encA_len];omega),encA_len,BA l (j - 3) h',show j / 3=(j - 3) / 3 + 1 by omega,show (j - 3) % 3=j % 3 by omega]
   rfl
theorem vi (d:Array aW):(Go.Sort.flatK ja 3 d).toList=(d.toList.map ja).flatten:=by
 apply d₁;intro j;have hl:(d.toList.map ja).flatten.length=d.size * 3:=by
  rw [wT (fun p hp=>by obtain⟨a,_,rfl⟩:=a₈.1 hp;rfl),b₂,Array.length_toList]
 by_cases hj:j < d.size * 3
 ·rw [BA _ _ (by rw [Array.length_toList];exact hj),Array.getElem?_toList,Array.getElem?_eq_getElem (by rw [size_flatK];exact hj)];have h1:=get_flatK ja 3 d j hj;rw [getElem!_pos _ _ (by rw [size_flatK];exact hj)] at h1;rw [h1];have h2:d[j / 3]! =d.toList.getD (j / 3) ac0:=by
   rw [getElem!_pos _ _ om,List.getD_eq_getElem?_getD,Array.getElem?_toList,Array.getElem?_eq_getElem om];rfl
  rw [h2,a₉ (by rw [encA_len];omega),getElem!_pos _ _ (by rw [encA_len];omega)]
 ·rw [b₆ (by rw [Array.length_toList,size_flatK];omega),b₆ (by rw [hl];omega)]
theorem Hb {w:World} {g:Nat} {cur:Array Value} {ty:TypeId} (hg:w.heap[g]? =some (.cells cur ty (0,0))) (F:Array Value) (hF:F.size≤cur.size) :
  ∃row:Array Value,row.size=cur.size∧F.toList <+:row.toList∧putRow id w g 0 F=w.setRow g row:=by
 refine⟨putCells id 0 F cur,by simp [putCells],?_,?_⟩
 ·rw [List.prefix_iff_eq_take]
  apply d₁
  intro j
  rw [List.getElem?_take,Array.length_toList]
  split
  ·rename_i hj
   rw [Array.getElem?_toList,Array.getElem?_toList,Array.getElem?_eq_getElem hj,Array.getElem?_eq_getElem (by simp [putCells];omega)]
   simp [putCells,hj]
  ·rename_i hj
   rw [b₆ (by rw [Array.length_toList];omega)]
 ·unfold putRow
  rw [mapBlock_congr w g _ (fun _=>putCells id 0 F cur) (fun c e fr h=>by rw [hg] at h;injection h with h;injection h with h;rw [h])]
  unfold mapBlock World.setRow
  congr 1
def vj (P:Program) (f g1:FuncId):Prop:= ∀(g cap:Nat) (d:Array aW) (w:World),HoldsK ja 3 w g 0 d→g < w.heap.size→d.size < 4611686018427387904→
 Calls P f #[.slice (some ⟨g,0,none⟩) d.size cap, .func (.func g1) #[] #[]] w fun e w'=>e= .returned (.tuple #[])∧∃d' n os,PermIn 0 d.size d d'∧SortedIn (ltOf fun x y:aW=>jv x.name y.name) 0 d.size d'∧w'=sortWorldK ja 3 w g 0 n d' os
theorem nu (a b:aW):ltOf (fun x y:aW=>jv x.name y.name) a b=Op.bytesLess a.name b.name:=by
 unfold ltOf;have:=yB a.name b.name;cases h:Op.bytesLess a.name b.name with
 | true=>exact decide_eq_true (this.2 h)
 | false=>exact decide_eq_false fun hh=>by rw [this.1 hh] at h;cases h
theorem BB {l:List aW} {d':Array aW} (hp:PermIn 0 l.toArray.size l.toArray d') (hs:SortedIn (ltOf fun x y:aW=>jv x.name y.name) 0 l.toArray.size d'):d'.toList.Perm l∧d'.toList.Pairwise (fun a b=>Op.bytesLess b.name a.name=false):=by
 obtain⟨h1,_,h3⟩:=hp;have e1:d'.extract 0 l.toArray.size=d':=by rw [← h1];exact Array.extract_size
 have e2:l.toArray.extract 0 l.toArray.size=l.toArray:=Array.extract_size;rw [e1,e2] at h3;refine⟨h3,List.pairwise_iff_getElem.2 fun i j hi hj hij=>?_⟩;rw [Array.length_toList] at hi hj;have:=hs i j (a₁ _) hij om;rw [nu,getElem!_pos d' j hj,getElem!_pos d' i hi] at this;exact this
theorem Ov {w:World} {P:bE} {adr:er} {f:FuncId} {v:Value} (h:aJ w P adr (.fn f []) v):v= .func (.func f) #[] #[] :=by
 cases h with
 | val cs h=>
  cases h with
  | fn parts hp hr=>
   match parts,hp with
   | [],_=>rfl
theorem Hc (hS:vj Tryz.prog 122 123) (l l':List aW) (hn0:l≠ []) (hl:l.length≤100000) (hd:l.Pairwise (fun a b=>a.name≠b.name)) (hs:cS l') (hp:l'.Perm l) :
    aL Tryz.prog G 122 [.ms 0 3 0 l.length, .fn 123 []] [(0,cF l)] 1 (.tup []) [(0,cF l')] 1:=by
  have hlen0:0 < l.length:=List.length_pos_iff.2 hn0
  intro w P adr vals hg hI hn hL hargs
  cases hargs with | cons a1 hargs=>cases hargs with | cons a2 hargs=>
  cases hargs
  have e2:=Ov a2
  subst e2
  rcases a1.ms_ with ⟨_,_,h0⟩ | ⟨g,o,cap,hg1,rfl,ho,hcap,hcm,cur0,ty0,hw0,hsz0⟩
  · omega
  have ho:o=0:=by simpa using ho (.inr rfl)
  subst ho
  have hsz0:=hsz0 rfl
  rcases hI.blk 0 (cF l) rfl with ⟨_,h2,_⟩ | ⟨g',h1,h2⟩
  · have:(cF l).l.length=0:=by rw [h2];rfl
    rw [show (cF l).l.length=l.length from b₂ _] at this
    omega
  rw [hg1] at h1
  injection h1 with h1
  subst h1
  obtain⟨cur,Q,hw,hQl,hQ3,hQr,hQp⟩:=h2.ofR rfl
  rw [hw0] at hw
  injection hw with hw
  injection hw with hw ht
  subst hw
  subst ht
  have hQe:Q=l.map ja:=xf hQl hQr
  subst hQe
  have hpg: ∀o,¬ P g o:=fun o ho=>absurd (h2.pe o ho) (Nat.not_lt_zero _)
  have hH:HoldsK ja 3 w g 0 l.toArray:=fun j hj=>by
    rw [size_flatK] at hj
    have h1:(Go.Sort.flatK ja 3 l.toArray).toList[j]? =some (Go.Sort.flatK ja 3 l.toArray)[j]! :=by
      rw [Array.getElem?_toList,Array.getElem?_eq_getElem (by rw [size_flatK];exact hj),getElem!_pos _ _ (by rw [size_flatK];exact hj)]
    rw [vi] at h1
    refine⟨?_,by simp [World.frozen?,hw0]⟩
    rw [b₀]
    exact uL hw0 hQp h1
  have hlt:g < w.heap.size:=(Array.getElem?_eq_some_iff.1 hw0).1
  refine(hS g cap l.toArray w hH hlt (by simp;omega)).mono ?_
  rintro e w' ⟨rfl,d',m,os,hpm,hst,rfl⟩
  obtain⟨k1,k2⟩:=BB hpm hst
  have hl':d'.toList=l':=Bd (vT k1 hd k2) hs (k1.trans hp.symm)
  have hds:d'.size=l.length:=hpm.1
  obtain⟨row,hr1,hr2,hr3⟩:=Hb (w:=Sort.ahead w m) (g:=g) hw0 (Go.Sort.flatK ja 3 d') (by rw [size_flatK,hds,hsz0];exact b₇ 3 hcap)
  unfold sortWorldK putRowK
  rw [hr3]
  rw [vi,hl'] at hr2
  have hka:bj w (Sort.ahead w m) P P adr adr:=⟨fun _ _ h=>h,fun _ _ _=>rfl,fun _ _ h=>h,fun _ _ cur _ _ h=>⟨cur,h,rfl⟩⟩
  have hIa:aU (Sort.ahead w m) P adr (aP (fun _=>none) 0 (cF l)):=by
    refine⟨fun c b hc=>?_,fun c c' b b' g hc hc'=>hI.inj c c' b b' g ?_ ?_,hI.prot⟩
    · by_cases e:c=0
      · subst e
        rw [aE] at hc
        injection hc with hc
        subst hc
        exact .inr ⟨g,hg1,h2.keep hka rfl fun _ h=>h⟩
      · rw [aK _ _ e] at hc;cases hc
    all_goals
      first
        | (by_cases e:c=0
           · subst e;rw [aE] at hc;exact hc
           · rw [aK _ _ e] at hc;cases hc)
        | (by_cases e:c'=0
           · subst e;rw [aE] at hc';exact hc'
           · rw [aK _ _ e] at hc';cases hc')
  have hl3:l'.length=l.length:=hp.length_eq
  obtain⟨j1,j2⟩:=hIa.write (c:=0) (g:=g) (b:=cF l) (b':=cF l') (cur:=cur0) (cur':=row) (by show(l.map bd).length≤(l'.map bd).length;simp;omega) (aE _ _ _) hg1 rfl rfl rfl hw0 hr1 (fun o ho=>absurd ho (hpg o)) (parts:=l'.map ja) (by show(l'.map ja).length=(l'.map bd).length;simp) (fun p hp=>by obtain⟨a,_,rfl⟩:=a₈.1 hp;rfl) (fun j x p hx hp=>by
    have hx:(l'.map bd)[j]? =some x:=hx
    rw [d₂] at hx hp
    cases hj:l'[j]? with
    | none=>rw [hj] at hx;cases hx
    | some a=>
      rw [hj] at hx hp
      injection hx with hx
      injection hp with hp
      subst hx hp
      exact Mx _ _ _ _) hr2
  have hb:Below ((Sort.ahead w m).setRow g row).heap.size ((Sort.ahead w m).setRow g row) (grow ((Sort.ahead w m).setRow g row) os):=
    ⟨rfl,rfl,rfl,sm,fun k hk=>by
      show((((Sort.ahead w m).setRow g row).heap ++ os))[k]? =_
      rw [Array.getElem?_append_left hk]⟩
  have e0:aP (aP (fun _=>none) 0 (cF l)) 0 (cF l')=aP (fun _=>none) 0 (cF l'):=by
    funext x
    by_cases e:x=0
    · subst e;rw [aE,aE]
    · rw [aK _ _ e,aK _ _ e,aK _ _ e]
  rw [e0] at j1
  have hkb:=bj.below' (adr:=adr) j1.prot hb
  have j3:aU (grow ((Sort.ahead w m).setRow g row) os) P adr (aP (fun _=>none) 0 (cF l')):=by
    refine⟨fun c b hc=>?_,j1.inj,fun b o h=>c₉ (j1.prot b o h) hb.size⟩
    rcases j1.blk c b hc with h | ⟨g',h,h'⟩
    · exact .inl h
    · exact .inr ⟨g',h,h'.keep hkb (hb.block _ h'.lt) fun _ h=>h⟩
  refine⟨_,rfl,P,adr,j3.sub fun c b hc=>?_, .tup [] rfl (fun j m u hm=>by simp at hm),(hka.trans j2).trans hkb,fun _ _=>rfl,hn,fun c g hc=> .inr ⟨c,hc⟩,fun b o ho=> .inl ho,?_⟩
  · rw [VM.get_cons] at hc
    by_cases e:c=0
    · subst e
      rw [aE]
      exact hc
    · rw [if_neg (Ne.symm e)] at hc
      cases hc
  · have hs:=wV (w:=Sort.ahead w m) (ex:=fun b=> ∃c0,adr c0=some b) (g:=g) row ⟨0,hg1⟩
    refine⟨rfl,rfl,rfl,Nat.le_trans hs.size hb.size,fun b hb1 hne=>?_⟩
    have hb2:b < ((Sort.ahead w m).setRow g row).heap.size:=c₉ hb1 hs.size
    exact(hb.block b hb2).trans (hs.block b hb1 hne)
end
section
variable {G:GS}
attribute [local irreducible] aj aC aG aM aQ vC aY aA
theorem My:aD Tryz.prog G 188 [.int .u64 0] (.int .i64 0):=by
 refine bf seat Tryz.func188 25 ?_;refine ad ?_;refine aw ?_;rfl
theorem Pr:aD Tryz.prog G 154 [.int .u64 0] (.int .i64 0):=by
 have c1:=My (G:=G);refine bf seat Tryz.func154 8 ?_;refine ad ?_;refine bL (c1) ?_;refine aw ?_;rfl
theorem Ps:aL Tryz.prog G 179 [.ms 0 3 0 0, .int .i64 0, .int .i64 0, .fn 123 []] [(0,cF [])] 1 (.tup []) [(0,cF [])] 1:=by
 unfold cF;refine bU seat Tryz.func179 53 ?_;refine ad ?_;refine ar Unit (fun _=> [(8, .int .i64 1),(2, .int .i64 0)]) (fun _=> [(0,⟨87,3,true,0,([] :List aW).map bd⟩)]) 1 (fun _=>True) (fun _=>0) () trivial (vm [] []) ?_;rintro⟨⟩ -;try dsimp only
 refine ad ?_;exact en []
theorem Pt:aL Tryz.prog G 153 [.ms 0 3 0 0, .int .i64 0, .int .i64 0, .int .i64 0, .fn 123 []] [(0,cF [])] 1 (.tup []) [(0,cF [])] 1:=by
 have c1:=Ps (G:=G);unfold cF at *;refine bU seat Tryz.func153 148 ?_;refine ad ?_;refine ar Unit (fun _=> [(0, .ms 0 3 0 0),(1, .int .i64 0),(2, .int .i64 0),(4, .fn 123 [])]) (fun _=> [(0,⟨87,3,true,0,([] :List aW).map bd⟩)]) 1 (fun _=>True) (fun _=>0) () trivial (vm [] []) ?_;rintro⟨⟩ -;try dsimp only
 refine ad ?_;refine yc (c1) [(0,0)] ?_;refine ad ?_;exact en []
theorem Hd:aL Tryz.prog G 122 [.ms 0 3 0 0, .fn 123 []] [(0,cF [])] 1 (.tup []) [(0,cF [])] 1:=by
 have c1:=Pt (G:=G);have c2:=Pr (G:=G);unfold cF at *;refine bU seat Tryz.func122 14 ?_;refine ad ?_;refine bL (c2) ?_;refine yc (c1) [(0,0)] ?_;refine ad ?_;exact en []
theorem Ow (hS:vj Tryz.prog 122 123) (l l':List aW) (hl:l.length≤100000) (hd:l.Pairwise (fun a b=>a.name≠b.name)) (hs:cS l') (hp:l'.Perm l) :
  aL Tryz.prog G 122 [.ms 0 3 0 l.length, .fn 123 []] [(0,cF l)] 1 (.tup []) [(0,cF l')] 1:=by
 by_cases h:l= []
 ·subst h
  have e:=List.perm_nil.1 hp
  subst e
  exact Hd
 ·exact Hc hS l l' h hl hd hs hp
end
section
variable {G:GS}
attribute [local irreducible] aj aC aG aM aQ vC aY aA
theorem Ks (l:List aW) (col:Nat) (hc:bl col) (hl:l.length≤100000) (hs: ∀a∈l,bl a.bal):aL Tryz.prog G 121 [.st [.ms 0 3 0 l.length, .int .u64 col]] [(0,cF l)] 1 (.tup [.int .u64 (totS l col).1, .bool (totS l col).2]) [(0,cF l)] 1:=by
 have cs:=CX (G:=G) (col :: l.map (·.bal)) (by simp;omega) (by
  intro a ha;rcases c₂.1 ha with rfl | ha
  ·exact hc
  ·obtain⟨x,hx,rfl⟩:=a₈.1 ha;exact hs x hx)
 rw [A8 l hc] at cs;generalize totS l col=p at *;obtain⟨v,b⟩:=p;dsimp only at cs ⊢;have hzl:(col :: l.map (·.bal)).length=l.length + 1:=sm;unfold cF;refine bU seat Tryz.func121 27 ?_;refine ad ?_;refine ar Nat (fun k=> [(13, .int .i64 k),(12, .int .i64 l.length),(11, .ms 0 3 0 l.length),(4, .ms 1 1 0 (k + 1))]) (fun k=> [(0,⟨87,3,true,0,l.map bd⟩),(1,⟨22,1,true,0,eR (col :: (l.take k).map (·.bal))⟩)]) 2 (fun k=>k≤l.length) (fun k=>l.length - k) 0 (a₁ _) (by rw [List.take_zero];exact(vm [(1,_)] [])) ?_;intro k hk;try dsimp only
 refine ad ?_;refine ae rfl ?_ ?_ <;> intro h
 ·have hk':k < l.length:=by have:=ot h;omega
  have hel:=N8 hk';have hsucc:=uG col l hk';have hll:(eR (col :: (l.take k).map (·.bal))).length=k + 1:=by simp [eR];omega
  generalize l[k] =x at *;obtain⟨nm,bal,seq⟩:=x;dsimp only at hsucc;replace hel:bK (l.map bd) (0 + k)=some (.st [.str nm, .int .u64 bal, .int .u64 seq]):=hel;have hel:=al.mk hel;refine ad ?_;refine bc rfl rfl (by intro R hR;refine dZ hR ?_;(refine a₂ (b₅ _) ?_;refine⟨_,rfl,?_⟩;refine a₂ ⟨hll,aF (by kernel_rfl) pf⟩ ?_;refine⟨eR (col :: (l.take (k + 1)).map (·.bal)),sv (by rw [hsucc];rfl),k + 1 + 1,sv pf,?_⟩);exact hR) rfl ?_;refine ad ?_;exact⟨k + 1,by show k + 1≤l.length;omega,by show l.length - (k + 1) < l.length - k;omega,(by dsimp only;exact(vm [(1,_)] []))⟩
 ·have hk':k=l.length:=by have:=oF h;omega
  subst hk';rw [List.take_length];have hlen:l.length=l.length:=rfl;generalize hZ:col :: l.map (·.bal)=Z at *;rw [← hzl];refine ad ?_;refine cG rfl (fun _ h=>h) rfl (aa cs) rfl [(1,Z.length)] ⟨(by show Z.length≤(eR Z).length;simp [eR]),trivial⟩ lm ?_;refine ad ?_;exact en [_,_]
theorem Mz (hS:vj Tryz.prog 122 123) (l:List aW) (hl:l.length≤100000) (hsm: ∀a∈l,qw a):aL Tryz.prog G 80 [.sl l.length (l.map bd)] [] 0 (.tup [lgM (ln l).1, .int .i64 (ln l).2]) [] 0:=by
 generalize hQ:ln l=Q;obtain⟨⟨Ql,Qc⟩,Qe⟩:=Q;unfold ln at hQ;unfold lgM;dsimp only;by_cases hn:256 < l.length
 ·rw [if_pos hn] at hQ;simp only [lg0,b₁,fH.mk.injEq] at hQ;obtain⟨⟨rfl,rfl⟩,rfl⟩:=hQ;refine bU seat Tryz.func80 57 ?_;refine ad ?_;refine ae rfl ?_ ?_ <;> intro h
  ·have _h0:=h;refine ad ?_;refine aw ?_;refine⟨[_,_],[],[],rfl,rfl,trivial,rfl,⟨?_,?_,trivial⟩,?_⟩
   ·exact .inr ⟨_,rfl,lm⟩
   ·exact rv
   ·exact mm
  ·exact absurd (oF h) om
 rw [if_neg hn] at hQ;have hg2:(i7 l []).2=r7 l [] :=CY l [] [] List.Pairwise.nil (fun nm=>by simp [aS]);have hg1:=CZ l [] List.Pairwise.nil;have hgn:=uK l [];generalize hv:i7 l [] =v at *;obtain⟨vl,ve⟩:=v;dsimp only at hQ hg1 hg2;subst hg2;have ct:=Ks (G:=G) l 0 (by unfold bl;omega) hl (fun a ha=>(hsm a ha).2.1);have co:=Bb (G:=G) ⟨l,0⟩ dm;unfold lgM at co;dsimp only at co;generalize hK:r7 l [] =e at *;refine bU seat Tryz.func80 57 ?_;refine ad ?_;refine ae rfl ?_ ?_ <;> intro h
 ·exact absurd (ot h) om
 refine ad ?_;refine ar (Nat×List (List UInt8)) (fun x=> [(19, .int .i64 x.1),(18, .int .i64 l.length),(17, .sl l.length (l.map bd)),(4, .mp 1),(2, .ptr 0 2 0 0 []),(0, .sl l.length (l.map bd))]) (fun x=> [(0,⟨36,2,false,0,[.st [.nils, .int .u64 0]]⟩),(1,⟨170,0,false,0,[yG x.2]⟩)]) 2 (fun x=>x.1≤l.length∧x.2.length≤x.1∧r7 (l.drop x.1) x.2=e) (fun x=>l.length - x.1) (0,[]) ⟨a₁ _,a₁ _,by rw [List.drop_zero];exact hK⟩ (by dsimp only;exact(vm [(0,_),(1,_)] [])) ?_;rintro⟨k,ks⟩ ⟨hk,hks,hR⟩;unfold yG;try dsimp only
 dsimp only at hk hks hR;refine ad ?_;refine ae rfl ?_ ?_ <;> intro h
 ·have hk':k < l.length:=by have:=ot h;omega
  have hel:=eY hk';have hsa:=hsm _ (c₅ hk');have c1:=so (G:=G) l[k].name (by have:=hsa.1;omega);rw [List.drop_eq_getElem_cons hk',r7] at hR;generalize l[k] =a at *;obtain⟨nm,bal,seq⟩:=a;replace hel:db (l.map bd) l.length (k:Int)=some (.st [.str nm, .int .u64 bal, .int .u64 seq]):=hel;have hel:=al.mk hel;dsimp only at hR c1;by_cases hnm:bW nm=false
  ·rw [hnm] at c1;rw [if_pos hnm] at hR;subst hR;rw [if_pos om] at hQ;simp only [lg0,b₁,fH.mk.injEq] at hQ;obtain⟨⟨rfl,rfl⟩,rfl⟩:=hQ;refine ad ?_;refine bL (c1) ?_;refine aw ?_;refine⟨[_,_],[],[],rfl,rfl,trivial,rfl,⟨?_,?_,trivial⟩,?_⟩
   ·exact .inr ⟨_,rfl,lm⟩
   ·exact rv
   ·exact mm
  rw [if_neg hnm] at hR;have hnm:bW nm=true:=by simpa using hnm
  rw [hnm] at c1;have hz:=bJ.mk (show(a₀ ks.length (MV.st [])).length=(ks.map MV.str).length by simp);by_cases hm:nm∈ks
  ·rw [if_pos hm] at hR;subst hR;rw [if_pos om] at hQ;simp only [lg0,b₁,fH.mk.injEq] at hQ;obtain⟨⟨rfl,rfl⟩,rfl⟩:=hQ;obtain⟨j,hj,hjl⟩:=qI (i:=0) hm;have hj:=al.mk hj;have hu:=al.mk (show bK (a₀ ks.length (MV.st [])) (0 + j)=some (MV.st []) by rw [bF,b₀];simp [hjl]);refine ad ?_;refine bL (c1) ?_;refine aw ?_;refine⟨[_,_],[],[],rfl,rfl,trivial,rfl,⟨?_,?_,trivial⟩,?_⟩
   ·exact .inr ⟨_,rfl,lm⟩
   ·exact rv
   ·exact mm
  ·rw [if_neg hm] at hR;have hj:=al.mk (uJ (i:=0) hm);have hv:=aX.mk (show [MV.mpv (ks.map MV.str ++ [.str nm]) (a₀ ks.length (MV.st []) ++ [.st []])] = [MV.mpv ((ks ++ [nm]).map MV.str) (a₀ (ks ++ [nm]).length (.st []))] by rw [c₆,a₅,a₄,List.replicate_succ'];rfl);refine ad ?_;refine bL (c1) ?_;exact⟨(k + 1,ks ++ [nm]),⟨dm,by simp;omega,hR⟩,dm,(by dsimp only;exact(vm [(0,_),(1,_)] []))⟩
 ·have hk':k=l.length:=by have:=oF h;omega
  subst hk';rw [List.drop_length,r7] at hR;subst hR;rw [if_neg sm] at hQ;obtain⟨hs1,hs2⟩:=hg1 rfl;rw [List.nil_append] at hs2;have hd:=(hgn rfl).1;have cs:=Ow (G:=G) hS l vl hl hd hs1 hs2;rw [← wS hs2.symm] at hQ;have hvl:=hs2.length_eq;unfold cF at co ct cs;generalize totS l 0=p at *;obtain⟨tot,ok⟩:=p;dsimp only at ct hQ;refine ad ?_;refine yc (co) [] ?_;refine ad ?_;refine yc (ct) [(0,5)] ?_;refine ad ?_;cases ok with
  | false=>
   rw [if_pos rfl] at hQ;simp only [lg0,b₁,fH.mk.injEq] at hQ;obtain⟨⟨rfl,rfl⟩,rfl⟩:=hQ;refine ad ?_;refine aw ?_;refine⟨[_,_],[],[],rfl,rfl,trivial,rfl,⟨?_,?_,trivial⟩,?_⟩
   ·exact .inr ⟨_,rfl,lm⟩
   ·exact rv
   ·exact mm
  | true=>
   rw [if_neg sm] at hQ;simp only [b₁,fH.mk.injEq] at hQ;obtain⟨⟨rfl,rfl⟩,rfl⟩:=hQ;refine ad ?_;refine yc (cs) [(0,5)] ?_;refine ad ?_;refine aw ?_;rw [← hvl];refine⟨[_,_],[],[(5,vl.length)],rfl,rfl,?_,rfl,⟨?_,?_,trivial⟩,?_⟩
   ·exact⟨by show vl.length≤(vl.map bd).length;simp,trivial⟩
   ·exact .inr ⟨_,rfl,lm⟩
   ·exact rv
   ·exact mm
end
section
attribute [local irreducible] aj aC aG aM aQ vC aY aA
theorem Kt (hS:vj Tryz.prog 122 123) (l:List aW) (p:Nat) (hl:l.length≤100000) (hsm: ∀a∈l,qw a) (hp:bl p):aL Tryz.prog GU 42 [.sl l.length (l.map bd), .int .u64 p] [] 0 (.tup [appM (fM l p).1, .int .i64 (fM l p).2]) [] 0:=by
 have c1:=Mz (G:=GU) hS l hl hsm;have hgs:=uh hsm;have co:=yC (G:=GU) (ln l).1 (by have:=hgs.1;omega);unfold fM;generalize ln l=y at *;obtain⟨⟨nacs,ncol⟩,e⟩:=y;unfold lgM at c1 co;dsimp only at *;by_cases he:e=0
 ·rw [if_neg (by simpa using he)]
  show aL _ _ _ _ _ _ (.tup [.st [.st [.sl nacs.length (nacs.map bd), .int .u64 ncol], .st [.sl nacs.length (nacs.map bd), .int .u64 ncol], .st [.sl 0 [], .int .u64 (0:Nat)], .bool false, .int .u64 p],_]) _ _
  refine bU seat Tryz.func42 22 ?_;refine ad ?_;refine kX (c1) ?_;refine ae rfl ?_ ?_ <;> intro h
  ·exact absurd he (fun he=>by subst he;simp at h)
  refine ad ?_;refine av [ag 0,ag 1,da 2,ag 3,ag 4,ag 5,ag 6] ?_;refine ad ?_;refine jk (co) ?_;refine aw ?_;refine⟨[_,_],[],[],rfl,rfl,trivial,rfl,⟨?_,?_,trivial⟩,?_⟩
  ·exact .inr ⟨_,rfl,⟨rel_lg,rel_lg,rel_lg0,⟨rfl,rfl⟩,⟨rfl,rfl⟩,trivial⟩⟩
  ·exact rv
  ·exact mm
 ·rw [if_pos he];dsimp only;refine bU seat Tryz.func42 22 ?_;refine ad ?_;refine kX (c1) ?_;refine ae rfl ?_ ?_ <;> intro h
  ·refine ad ?_;refine aw ?_;refine⟨[_,_],[],[],rfl,rfl,trivial,rfl,⟨?_,?_,trivial⟩,?_⟩
   ·exact AI
   ·exact rv
   ·exact mm
  ·exfalso;have: ¬ (e:Int)≠0:=by simpa using h
   omega
end
section
open Go.RowKit Go.Lib Go.Shelf Go.Sort
theorem Qf:SWO (ltOf fun x y:aW=>jv x.name y.name) where
 irrefl x:=by rw [nu];exact less_irr _
 trans x y z h1 h2:=by rw [nu] at *;exact gW h1 h2
 ntrans x y z h1 h2:=by
  rw [nu] at *;cases h:Op.bytesLess x.name z.name with
  | false=>rfl
  | true=>
   exfalso;by_cases e:z.name=y.name
   ·rw [e,h1] at h;cases h
   ·have h3:=uH h2 (Ne.symm e);rw [gW h h3] at h1;cases h1
theorem Ox:vj Tryz.prog 122 123:=by
 intro g cap d w hH hg hd;have eg: ∀args w,(callFunc 123 args).run Tryz.prog w= .ok (.enter 123 args) w:=enters_of Tryz.func123 (by kernel_rfl) rfl
 exact AnyQ.slices_SortFunc Tryz.sortAcc 3 Tryz.isAgg87 Tryz.sizeOf87 ja (fun _=>rfl) (fun x v hv=>by simp [ja] at hv;rcases hv with rfl | rfl | rfl <;> rfl) (fun x y=>jv x.name y.name) Qf 123 #[] g 0 cap d w eg (fun _ _ _ _ x y=>Kr x y _) hH hg hd
theorem Ku (l:List aW) (p:Nat) (hl:l.length≤100000) (hsm: ∀a∈l,qw a) (hp:bl p):aL Tryz.prog GU 42 [.sl l.length (l.map bd), .int .u64 p] [] 0 (.tup [appM (fM l p).1, .int .i64 (fM l p).2]) [] 0:=Kt Ox l p hl hsm hp
end
section
variable {G:GS}
attribute [local irreducible] aj aC aG aM aQ vC aY aA
def cfE0:nD:=⟨0,0,0,0,0,0,false,0,0,0,0,0⟩
def stE0:cL:=⟨cfE0,app0,0,0,0,[],[]⟩
def jQ (c:nD) (acs:List aW):cL×Int:=
 if jx c≠0 then(stE0,jx c) else if (fM acs c.price).2≠0 then(stE0,(fM acs c.price).2) else(⟨c,(fM acs c.price).1,0,0,0,[],[]⟩,0)
theorem sw {σ:Nat→Option Nat} {fz:Fz}:cU σ fz (dq stE0) pH:=
 have lg:cU σ fz (lgM lg0) (.st [.nils, .int .u64 0]):= .inr ⟨_,rfl, .inr ⟨rfl,rfl⟩,⟨rfl,rfl⟩,trivial⟩
 .inr ⟨_,rfl, .inl ⟨rfl,rfl⟩, .inr ⟨_,rfl,lg,lg,lg,⟨rfl,rfl⟩,⟨rfl,rfl⟩,trivial⟩,⟨rfl,rfl⟩,⟨rfl,rfl⟩,⟨rfl,rfl⟩, .inr ⟨rfl,rfl⟩, .inr ⟨rfl,rfl⟩,trivial⟩
theorem Kv (c:nD) (acs:List aW) (hl:acs.length≤140737488355328) (hsm: ∀a∈acs,qw a) (hp:bl c.price):aL Tryz.prog G 17 [cfM c, .sl acs.length (acs.map bd)] [] 0 (.tup [dq (jQ c acs).1, .int .i64 (jQ c acs).2]) [] 0:=by
 have cv:=Kk (G:=G) c;have ci:=LJ (G:=G) acs c.price hl hsm hp;unfold jQ;generalize jx c=v at *;generalize fM acs c.price=ia at *;obtain⟨a0,ea⟩:=ia;dsimp only at ci ⊢;by_cases hv:v=0;rotate_left
 ·rw [if_pos hv];refine bU seat Tryz.func17 29 ?_;refine ad ?_;refine bL (cv) ?_;refine ae rfl ?_ ?_ <;> intro h
  ·refine ad ?_;refine aw ?_;refine⟨[_,_],[],[],rfl,rfl,trivial,rfl,⟨?_,?_,trivial⟩,?_⟩
   ·exact sw
   ·exact rv
   ·exact mm
  ·exact absurd (by simpa using h) hv
 ·subst hv;rw [if_neg sm];by_cases he:ea=0;rotate_left
  ·rw [if_pos he];refine bU seat Tryz.func17 29 ?_;refine ad ?_;refine bL (cv) ?_;refine kX (ci) ?_;refine ae rfl ?_ ?_ <;> intro h
   ·refine ad ?_;refine aw ?_;refine⟨[_,_],[],[],rfl,rfl,trivial,rfl,⟨?_,?_,trivial⟩,?_⟩
    ·exact sw
    ·exact rv
    ·exact mm
   ·exact absurd (by simp at h;omega) he
  ·subst he;rw [if_neg sm];refine bU seat Tryz.func17 29 ?_;refine ad ?_;refine bL (cv) ?_;refine kX (ci) ?_;refine aw ?_;exact en [_,_]
end
section
attribute [local irreducible] aj aC aG aM aQ vC aY aA
theorem qX {m:FM} (s:cL) (h0:m 0=some (kC s.ents)):RD MV.idFree m (dq s) (stE s 0):=by
 refine .stl (.cons (.same rfl) (.cons (.same rfl) (.cons (.same rfl) (.cons (.same rfl) (.cons (.same rfl) (.cons ?_ (.cons (.same rfl) .nil)))))));exact RD.row (kC s.ents) h0 rfl sm (fun x hx=>by obtain⟨y,_,rfl⟩:=a₈.1 hx;rfl)
theorem vk {s:cL} {k:List UInt8} (hc:qC s.cfg) (hi:cZ s):{ s with cache:=dK k s.cache s.cfg.cache }=bm s k:=by
 unfold bm;rw [GQ hi.cd (by have:=hi.cl;have:=hc.cache;omega)]
theorem Kw {s:cL} {k:List UInt8} (hi:cZ s):{ s with cache:=cR k s.cache }=eJ s k:=by
 unfold eJ;rw [GP hi.cd]
theorem blk {p:Prop} (h:p:=by first | exact(.inr ⟨_,_,rfl,rfl,rfl,rfl, .inl rfl, .inl rfl, .inr ⟨rv,trivial⟩⟩) | fail):p:=h
theorem Kx [FX:Fx] {B:Nat} (s:cL) (raw:List UInt8) (peer:Int) (hraw:raw.length≤1000000) (hs:dU B s) (hB:B≤100000) (hi:cZ s) (h1: ¬ s.cfg.maxTx < (raw.length:Int)) (h2: ¬ s.cfg.blkB < (iE raw.length:Int)) (i:Nat) (hin:i < s.ents.length) (hR:jF (aT raw) s.ents=(i:Int)) (hp:dt peer=true) (hn:peer ∉ s.ents[i].peers) :
  aL Tryz.prog GU 21 [dq s, .sl raw.length (u8s raw), .int .i64 peer] [] 0 (.tup [dq (dj (bm s (aT raw)) (i:Int) peer),pG (fw 23)]) [] 0:=by
 have hel:=hs.ents
 have hcl:=hs.cache
 have hk32:(aT raw).length=32:=gy raw
 have c0:=Dd s hs.app om om (fun e he=>⟨by have:=(hs.entk e he).raw;omega,by have:=(hs.entk e he).peers;omega⟩) i hin
 have c1:=um (G:=GU) raw.length om
 have c2:=ss (G:=GU) raw hraw
 have c3:=aa (uU (G:=GU) s (aT raw) om hk32 (fun e he=>(hs.entk e he).key))
 rw [hR] at c3
 have b3:=iR c3 (M0:= [(0,⟨64,41,false,0,eo s.ents s.ents[i] i s.ents.length 1⟩),(1,lK s.ents[i].peers)]) (n0:=2) (args:= [stE s 0,keyM (aT raw)]) (.cons (Bs s hin rfl rfl) (.cons (.same rfl) .nil)) (.one (.same rfl))
 have c4:=Ml (G:=GU) s (aT raw) peer i hin hk32 om (fun e he=>⟨(hs.entk e he).key,by have:=(hs.entk e he).peers;omega⟩) om hs.ck hR hp hn
 have hsee:dj (bm s (aT raw)) (i:Int) peer={ s with cache:=dK (aT raw) s.cache s.cfg.cache,ents:=s.ents.set i { s.ents[i] with peers:=s.ents[i].peers ++ [peer] } }:=by
  rw [← vk hs.cfg hi]
  unfold dj
  rw [if_pos ⟨om,hp⟩]
  simp only [d₃,a₉ hin]
  rw [if_neg hn]
 rw [hsee]
 have hZ: ∀{σ:Nat→Option Nat} {fz:Fz} {c d:Nat},σ c=some d→cU.relVs σ fz (eo s.ents s.ents[i] i s.ents.length c) (eo s.ents s.ents[i] i s.ents.length d):=fun h=>iH _ _ _ _ h
 have hZ2: ∀{σ:Nat→Option Nat} {fz:Fz} {ρ:Nat→Nat} {c d:Nat},σ c=some (ρ d)→cU.relVs σ fz (eo s.ents s.ents[i] i s.ents.length c) (renVs ρ (eo s.ents s.ents[i] i s.ents.length d)):=fun h=>by rw [uS];exact iH _ _ _ _ h
 clear hsee hR hp hn hi c3
 unfold lK at *
 generalize ({ s with cache:=dK (aT raw) s.cache s.cfg.cache,ents:=s.ents.set i { s.ents[i] with peers:=s.ents[i].peers ++ [peer] } }:cL)=t at *
 generalize aT raw=key at *
 generalize iE raw.length=wb at *
 refine bU seat Tryz.func21 110 ?_
 refine ad ?_
 refine yc (c0) [] ?_
 refine BI ?_
 generalize s.ents[i] =e at *
 refine iW [(1, .sl raw.length (u8s raw)),(2, .int .i64 peer),(3, .ptr 0 25 0 0 []),(6, .ptr 1 25 0 0 []),(7, .ptr 2 73 0 0 [])] [(0,⟨42,25,false,0,[stE s 3]⟩),(1,⟨42,25,false,0,[pH]⟩),(2,⟨57,73,false,0,[Ho]⟩),(3,⟨64,41,false,0,eo s.ents e i s.ents.length 4⟩),(4,⟨3,1,true,0,e.peers.map (MV.int .i64)⟩)] 5 ⟨[(0,0),(1,1),(2,2),(3,4),(4,5)],[],rfl,trivial,rfl,mm,by (refine a₂ ?_ (a₂ ?_ (a₂ ?_ (a₂ (.inr ⟨4,_,rfl,rfl,rfl,rfl, .inl rfl, .inl rfl, .inr (hZ2 rfl)⟩) mm))) <;> exact blk)⟩ ?_
 refine ad ?_
 refine ae rfl ?_ ?_ <;> intro h
 ·exact absurd (ot h) h1
 refine ad ?_
 refine av [ag 0,ag 1,da 2,ag 3,ag 4,ag 5,ag 6] ?_
 refine ad ?_
 refine du (c1) ?_
 refine ae rfl ?_ ?_ <;> intro h
 ·exact absurd (ot h) h2
 refine ad ?_
 refine yv (c2) ?_
 refine BI ?_
 refine iW [(1, .sl raw.length (u8s raw)),(2, .int .i64 peer),(3, .ptr 0 25 0 0 []),(6, .ptr 1 25 0 0 []),(7, .ptr 2 73 0 0 []),(9, .ptr 5 32 0 0 [])] [(0,⟨42,25,false,0,[stE s 3]⟩),(1,⟨42,25,false,0,[pH]⟩),(2,⟨57,73,false,0,[Ho]⟩),(3,⟨64,41,false,0,eo s.ents e i s.ents.length 4⟩),(4,⟨3,1,true,0,e.peers.map (MV.int .i64)⟩),(5,⟨55,32,false,0,[keyM key]⟩)] 6 ⟨[(0,0),(1,1),(2,2),(3,3),(4,4),(5,_)],[],rfl,trivial,rfl,mm,by (refine a₂ ?_ (a₂ ?_ (a₂ ?_ (a₂ (.inr ⟨3,_,rfl,rfl,rfl,rfl, .inl rfl, .inl rfl, .inr (hZ rfl)⟩) mm))) <;> exact blk)⟩ ?_
 refine ad ?_
 refine bR rfl (fun _ h=>h) rfl (b3) [(0,3),(1,4)] [] ⟨rfl,trivial,rfl,lm, .inr ⟨3,_,rfl,rfl,rfl,rfl, .inl rfl, .inl rfl, .inr (hZ rfl)⟩,mm⟩ rfl rfl ?_
 refine Ab [(38, .int .i64 i),(2, .int .i64 peer),(3, .ptr 0 25 0 0 []),(6, .ptr 1 25 0 0 []),(7, .ptr 2 73 0 0 []),(9, .ptr 5 32 0 0 [])] [(0,⟨42,25,false,0,[stE s 3]⟩),(1,⟨42,25,false,0,[pH]⟩),(2,⟨57,73,false,0,[Ho]⟩),(3,⟨64,41,false,0,eo s.ents e i s.ents.length 4⟩),(4,⟨3,1,true,0,e.peers.map (MV.int .i64)⟩),(5,⟨55,32,false,0,[keyM key]⟩)] [] trivial rfl mm (by(refine a₂ ?_ (a₂ ?_ (a₂ ?_ (a₂ (.inr ⟨3,_,rfl,rfl,rfl,rfl, .inl rfl, .inl rfl, .inr (hZ2 rfl)⟩) mm))) <;> exact blk)) ?_
 refine ad ?_
 refine bR rfl (fun _ h=>h) rfl (c4) [(0,3),(1,4)] [] ⟨rfl,trivial,rfl,lm, .inr ⟨3,_,rfl,rfl,rfl,rfl, .inl rfl, .inl rfl, .inr (hZ rfl)⟩,mm⟩ rfl rfl ?_
 unfold pG fw
 dsimp only
 refine ad ?_
 refine aw ?_
 exact en [_,_]
end
section
attribute [local irreducible] aj aC aG aM aQ vC aY aA
theorem vn {σ:Nat→Option Nat} {fz:Fz} (s:cL) {d:Nat} (h:No fz (.ms d 41 0 s.ents.length) s.ents.length (s.ents.map au)):cU σ fz (dq s) (stE s d):=
 .inr ⟨_,rfl, .inl ⟨rfl,rfl⟩, .inl ⟨rfl,rfl⟩,⟨rfl,rfl⟩,⟨rfl,rfl⟩,⟨rfl,rfl⟩, .inr h, .inl rfl,trivial⟩
theorem mP [FX:Fx] {B:Nat} (s:cL) (raw:List UInt8) (peer:Int) (hraw:raw.length≤1000000) (hs:dU B s) (hB:B≤100000) (hi:cZ s)
  (hno: ¬ s.cfg.maxTx < (raw.length:Int)→¬ s.cfg.blkB < (iE raw.length:Int)→(0≤jF (aT raw) s.ents∨0≤posK (aT raw) s.cache 0)∧(jF (aT raw) s.ents= -1∨∃j,∃hj:j < s.ents.length,jF (aT raw) s.ents=(j:Int)∧(dt peer=true→peer∈s.ents[j].peers))) :
  aL Tryz.prog GU 21 [dq s, .sl raw.length (u8s raw), .int .i64 peer] [] 0 (.tup [dq (aO s raw peer).1,pG (aO s raw peer).2]) [] 0:=by
 have hel:=hs.ents
 have hcl:=hs.cache
 have hk32:(aT raw).length=32:=gy raw
 have c0:=uT s hs.app om om (fun e he=>⟨by have:=(hs.entk e he).raw;omega,by have:=(hs.entk e he).peers;omega⟩)
 have c1:=um (G:=GU) raw.length om
 have c2:=ss (G:=GU) raw hraw
 have c3:=aa (uU (G:=GU) s (aT raw) om hk32 (fun e he=>(hs.entk e he).key))
 have b3:=iR c3 (M0:= [(0,kC s.ents)]) (n0:=1) (args:= [stE s 0,keyM (aT raw)]) (.cons (qX s rfl) (.cons (.same rfl) .nil)) (.one (.same rfl))
 have c4:=yK (G:=GU) s.cache (aT raw) om hk32 hs.ck
 rw [← mI] at c4
 have c5:=Mj (G:=GU) s (aT raw) peer hk32 om (fun e he=>⟨(hs.entk e he).key,by have:=(hs.entk e he).peers;omega⟩) om hs.ck
 have hC:aO s raw peer=(if s.cfg.maxTx < (raw.length:Int) then(s,fw 20) else if s.cfg.blkB < (iE raw.length:Int) then(s,fw 21) else if 0≤jF (aT raw) s.ents∨0≤posK (aT raw) s.cache 0 then(dj (bm s (aT raw)) (jF (aT raw) s.ents) peer,fw 23) else fB (bm s (aT raw)) (aT raw) raw peer):=by
  unfold aO
  dsimp only
 have hsee:(jF (aT raw) s.ents= -1∨∃j,∃hj:j < s.ents.length,jF (aT raw) s.ents=(j:Int)∧(dt peer=true→peer∈s.ents[j].peers))→dj (bm s (aT raw)) (jF (aT raw) s.ents) peer={ s with cache:=dK (aT raw) s.cache s.cfg.cache }:=by
  rw [← vk hs.cfg hi]
  rintro(h | ⟨j,hj,h,hp⟩)
  ·unfold dj
   rw [h,if_neg om]
  ·unfold dj
   rw [h]
   split
   ·rename_i hq
    simp only [d₃,a₉ hj]
    rw [if_pos (hp hq.2)]
   ·rfl
 clear hk32 hi
 generalize aO s raw peer=C at *
 unfold kC at *
 generalize aT raw=key at *
 generalize iE raw.length=wb at *
 generalize hti:jF key s.ents=ti at *
 generalize posK key s.cache 0=pk at *
 clear hti
 refine bU seat Tryz.func21 110 ?_
 refine ad ?_
 refine yc (c0) [] ?_
 refine BI ?_
 refine iW ([(1, .sl raw.length (u8s raw)),(2, .int .i64 peer),(3, .ptr 0 25 0 0 []),(6, .ptr 1 25 0 0 []),(7, .ptr 2 73 0 0 [])]) ([(0,⟨42,25,false,0,[stE s 3]⟩),(1,⟨42,25,false,0,[pH]⟩),(2,⟨57,73,false,0,[Ho]⟩),(3,⟨64,41,true,0,s.ents.map au⟩)]) (4) (vm [(0,_),(1,_),(2,_),(3,_)] []) ?_
 refine ad ?_
 refine ae rfl ?_ ?_ <;> intro h
 ·rw [hC,if_pos (ot h)]
  unfold pG fw
  dsimp only
  refine ad ?_
  refine aw ?_
  refine⟨[_,_],[],[(3,s.ents.length)],rfl,rfl,?_,rfl,⟨?_,?_,trivial⟩,?_⟩
  ·exact⟨by show s.ents.length≤(s.ents.map au).length;simp,trivial⟩
  ·exact vn s ⟨rfl,rfl,rfl,b₃ (b₀ _),bV _ _⟩
  ·exact rv
  ·exact mm
 have hg1:=oF h
 rw [if_neg hg1] at hC
 clear h
 refine ad ?_
 refine av [ag 0,ag 1,da 2,ag 3,ag 4,ag 5,ag 6] ?_
 refine ad ?_
 refine du (c1) ?_
 refine ae rfl ?_ ?_ <;> intro h
 ·rw [hC,if_pos (ot h)]
  unfold pG fw
  dsimp only
  refine ad ?_
  refine aw ?_
  refine⟨[_,_],[],[(3,s.ents.length)],rfl,rfl,?_,rfl,⟨?_,?_,trivial⟩,?_⟩
  ·exact⟨by show s.ents.length≤(s.ents.map au).length;simp,trivial⟩
  ·exact vn s ⟨rfl,rfl,rfl,b₃ (b₀ _),bV _ _⟩
  ·exact rv
  ·exact mm
 have hg2:=oF h
 obtain⟨ha,hb⟩:=hno hg1 hg2
 rw [if_neg hg2,if_pos ha,hsee hb] at hC
 rw [hC]
 clear hsee hC h hno
 replace c5:=c5 hb
 clear hb
 generalize ({ s with cache:=dK key s.cache s.cfg.cache }:cL)=t at *
 refine ad ?_
 refine bL (c2) ?_
 refine yc (b3) [(0,3)] ?_
 refine ad ?_
 have hcase:0≤ti∨(¬ 0≤ti∧0≤pk):=om
 rcases hcase with hc | ⟨hc1,hc2⟩
 ·refine ah rfl rfl ?_ rfl ?_ <;> intro h
  ·exact absurd (oF h) om
  refine ad ?_
  refine bR rfl (fun _ h=>h) rfl (c5) [] [(3,s.ents.length)] ⟨rfl,mm,rfl,lm,mm⟩ rfl rfl ?_
  unfold pG fw
  dsimp only
  refine ad ?_
  refine aw ?_
  exact en [_,_]
 ·rw [decide_eq_true hc2] at c4
  refine ah rfl rfl ?_ rfl ?_ <;> intro h
  rotate_left
  ·exact absurd (ot h) om
  refine ad ?_
  refine bL (c4) ?_
  refine bR rfl (fun _ h=>h) rfl (c5) [] [(3,s.ents.length)] ⟨rfl,mm,rfl,lm,mm⟩ rfl rfl ?_
  unfold pG fw
  dsimp only
  refine ad ?_
  refine aw ?_
  exact en [_,_]
end
section
attribute [local irreducible] aj aC aG aM aQ vC aY aA
theorem He {s:cL} {k:List UInt8} (hc:qC s.cfg) (hi:cZ s):bm s k={ s with cache:=dK k s.cache s.cfg.cache }:=(vk hc hi).symm
theorem Hf {t:cL} {key raw:List UInt8} {peer:Int} (hi:cZ t):fB t key raw peer=(if (iS t raw).code≠0 then(if t.cfg.keep=true then t else { t with cache:=cR key t.cache },fw (iS t raw).code) else if (cK (iS t raw).prio raw.length t.cfg.maxTxs t.cfg.maxBytes t.ents).2=false then({ t with cache:=cR key t.cache },fw 24) else(kB t key raw peer (iS t raw) (cK (iS t raw).prio raw.length t.cfg.maxTxs t.cfg.maxBytes t.ents).1,LO key (iS t raw) (cK (iS t raw).prio raw.length t.cfg.maxTxs t.cfg.maxBytes t.ents).1)):=by
 rw [Kw hi,Bm hi];generalize hj:iS t raw=q;unfold iS at hj;unfold fB dw;dsimp only at hj ⊢;generalize bM t.app raw=r at *;by_cases hc:r.code=0
 ·by_cases hv:qE t r.gas=true
  ·rw [if_pos ⟨hc,hv⟩] at hj;subst hj;rw [if_neg (by simpa using hc),if_pos hv,if_pos (show(22:Nat)≠0 by decide)];rfl
  ·rw [if_neg (fun h=>hv h.2)] at hj;subst hj;have hc2: ¬ r.code≠0:=fun h=>h hc
   rw [if_neg hc2,if_neg hv,if_neg hc2]
 ·rw [if_neg (fun h=>hc h.1)] at hj;subst hj;rw [if_pos hc,if_pos hc]
theorem Ky [FX:Fx] {B:Nat} (s:cL) (raw:List UInt8) (peer:Int) (hraw:raw.length≤1000000) (hs:dU B s) (hB:B≤100000) (hi:cZ s)
  (h1: ¬ s.cfg.maxTx < (raw.length:Int)) (h2: ¬ s.cfg.blkB < (iE raw.length:Int)) (h3: ¬ 0≤jF (aT raw) s.ents) (h4: ¬ 0≤posK (aT raw) s.cache 0) :
  aL Tryz.prog GU 21 [dq s, .sl raw.length (u8s raw), .int .i64 peer] [] 0 (.tup [dq (aO s raw peer).1,pG (aO s raw peer).2]) [] 0:=by
 have hel:=hs.ents
 have hcl:=hs.cache
 have hk32:(aT raw).length=32:=gy raw
 have hp1:=He (k:=aT raw) hs.cfg hi
 have hpo:=qD (B:=B) hs hk32
 have hpi:=lA (aT raw) hs.cfg hi
 have hC:aO s raw peer=fB (bm s (aT raw)) (aT raw) raw peer:=by
  unfold aO
  dsimp only
  rw [if_neg h1,if_neg h2,if_neg om]
 rw [hC,Hf hpi]
 clear hC hpi
 rw [hp1] at hpo ⊢
 clear hp1
 dsimp only
 have c0:=uT s hs.app om om (fun e he=>⟨by have:=(hs.entk e he).raw;omega,by have:=(hs.entk e he).peers;omega⟩)
 have c1:=um (G:=GU) raw.length om
 have c2:=ss (G:=GU) raw hraw
 have c3:=aa (uU (G:=GU) s (aT raw) om hk32 (fun e he=>(hs.entk e he).key))
 have b3:=iR c3 (M0:= [(0,kC s.ents)]) (n0:=1) (args:= [stE s 0,keyM (aT raw)]) (.cons (qX s rfl) (.cons (.same rfl) .nil)) (.one (.same rfl))
 have c4:=yK (G:=GU) s.cache (aT raw) om hk32 hs.ck
 rw [← mI] at c4
 have c5:=yL (G:=GU) s.cache s.cfg.cache (aT raw) om hk32 hs.ck
 generalize hP:dK (aT raw) s.cache s.cfg.cache=P at *
 have hPl:P.length≤1024:=by have:=hpo.cache;simpa using this
 have hPk:eF P:=hpo.ck
 have c6:=aa (Mi { s with cache:=P } raw hpo.cfg hpo.app om)
 have b6:=iR c6 (M0:= [(0,kC s.ents)]) (n0:=1) (args:= [stE { s with cache:=P } 0, .sl raw.length (u8s raw)]) (.cons (qX { s with cache:=P } rfl) (.cons (.same rfl) .nil)) (.one (.same rfl))
 have c7:=EN (G:=GU) P (aT raw) om hk32 hPk
 generalize hr:iS { s with cache:=P } raw=r at *
 have hso:=yu r.prio raw.length s.cfg.maxTxs s.cfg.maxBytes s.ents (fun e he=>(hs.entk e he).key)
 have hmx:=hs.cfg.maxTx
 have hmt:=hs.cfg.maxTxs
 have hmb:=hs.cfg.maxBytes
 have c8:=Kf (G:=GU) s.ents om (fun e he=>⟨by have:=(hs.entk e he).raw;omega,by have:=(hs.entk e he).peers;omega⟩) r.prio raw.length s.cfg.maxTxs s.cfg.maxBytes om om
 generalize cK r.prio raw.length s.cfg.maxTxs s.cfg.maxBytes s.ents=v at *
 obtain⟨ks,okk⟩:=v
 dsimp only at hso c8 ⊢
 have b8:=iR c8 (M0:= [(0,kC s.ents)]) (n0:=1) (args:= [.ms 0 41 0 s.ents.length, .int .u64 r.prio, .int .i64 raw.length, .int .i64 s.cfg.maxTxs, .int .i64 s.cfg.maxBytes]) (res:= .tup [.sl ks.length (ks.map keyM), .bool okk]) (.cons (RD.row (kC s.ents) rfl rfl sm (fun x hx=>by obtain⟨y,_,rfl⟩:=a₈.1 hx;rfl)) (.cons (.same rfl) (.cons (.same rfl) (.cons (.same rfl) (.cons (.same rfl) .nil))))) (.tup (.cons (sr ks) (.cons (.same rfl) .nil)))
 have c9:=JO { s with cache:=P } raw peer r ks hraw hpo.app (by have:=hpo.ents;omega) (fun e he=>(hpo.entk e he).key) (by have:=hpo.cache;omega) hPk hso.1 (by have:=hso.2;omega) (by have:=hpo.arr;omega)
 generalize hA:kB { s with cache:=P } (aT raw) raw peer r ks=T at *
 unfold kC at *
 clear hr hP c3 c6 c8 hso
 generalize hDe:cR (aT raw) P=D at *
 generalize aT raw=key at *
 generalize iE raw.length=wb at *
 generalize jF key s.ents=ti at *
 generalize posK key s.cache 0=pk at *
 rw [decide_eq_false h4] at c4
 refine bU seat Tryz.func21 110 ?_
 refine ad ?_
 refine yc (c0) [] ?_
 refine BI ?_
 refine iW ([(1, .sl raw.length (u8s raw)),(2, .int .i64 peer),(3, .ptr 0 25 0 0 []),(6, .ptr 1 25 0 0 []),(7, .ptr 2 73 0 0 [])]) ([(0,⟨42,25,false,0,[stE s 3]⟩),(1,⟨42,25,false,0,[pH]⟩),(2,⟨57,73,false,0,[Ho]⟩),(3,⟨64,41,true,0,s.ents.map au⟩)]) (4) (vm [(0,_),(1,_),(2,_),(3,_)] []) ?_
 refine ad ?_
 refine ae rfl ?_ ?_ <;> intro h
 ·exact absurd (ot h) h1
 refine ad ?_
 refine av [ag 0,ag 1,da 2,ag 3,ag 4,ag 5,ag 6] ?_
 refine ad ?_
 refine du (c1) ?_
 refine ae rfl ?_ ?_ <;> intro h
 ·exact absurd (ot h) h2
 clear h
 refine ad ?_
 refine bL (c2) ?_
 refine yc (b3) [(0,3)] ?_
 refine ad ?_
 refine ah rfl rfl ?_ rfl ?_ <;> intro h
 rotate_left
 ·exact absurd (ot h) h3
 refine ad ?_
 refine bL (c4) ?_
 refine yr (c5) ?_
 refine BI ?_
 clear b3 c0 c1 c2 c4 c5 h h1 h2 h3 h4
 refine iW ([(1, .sl raw.length (u8s raw)),(2, .int .i64 peer),(3, .ptr 0 25 0 0 []),(6, .ptr 1 25 0 0 []),(7, .ptr 2 73 0 0 []),(8, .ptr 4 12 0 0 []),(9, .ptr 5 32 0 0 [])]) ([(0,⟨42,25,false,0,[stE { s with cache:=P } 3]⟩),(1,⟨42,25,false,0,[pH]⟩),(2,⟨57,73,false,0,[Ho]⟩),(3,⟨64,41,true,0,s.ents.map au⟩),(4,⟨24,12,false,0,[cfM s.cfg]⟩),(5,⟨55,32,false,0,[keyM key]⟩)]) (6) (vm [(0,_),(1,_),(2,_),(3,_),(4,_),(5,_)] []) ?_
 refine ad ?_
 refine yc (b6) [(0,3)] ?_
 clear b6
 refine BI ?_
 refine iW ([(1, .sl raw.length (u8s raw)),(2, .int .i64 peer),(3, .ptr 0 25 0 0 []),(6, .ptr 1 25 0 0 []),(7, .ptr 2 73 0 0 []),(8, .ptr 4 12 0 0 []),(9, .ptr 5 32 0 0 []),(10, .ptr 6 5 0 0 [])]) ([(0,⟨42,25,false,0,[stE { s with cache:=P } 3]⟩),(1,⟨42,25,false,0,[pH]⟩),(2,⟨57,73,false,0,[Ho]⟩),(3,⟨64,41,true,0,s.ents.map au⟩),(4,⟨24,12,false,0,[cfM s.cfg]⟩),(5,⟨55,32,false,0,[keyM key]⟩),(6,⟨105,5,false,0,[jO r]⟩)]) (7) (vm [(0,_),(1,_),(2,_),(3,_),(4,_),(5,_),(6,_)] []) ?_
 refine ad ?_
 refine ae rfl ?_ ?_ <;> intro h
 ·have hc:r.code≠0:=by simpa using h
  rw [if_pos hc]
  unfold pG fw
  refine ad ?_
  refine ae rfl ?_ ?_ <;> intro h
  ·rw [if_neg (by simpa using h)]
   dsimp only
   refine ad ?_
   refine kX (c7) ?_
   refine av [ag 0,ag 1,ag 2,ag 3,ag 4,ag 5] ?_
   refine ad ?_
   refine aw ?_
   refine⟨[_,_],[],[(3,s.ents.length)],rfl,rfl,?_,rfl,⟨?_,?_,trivial⟩,?_⟩
   ·exact⟨by show s.ents.length≤(s.ents.map au).length;simp,trivial⟩
   ·exact vn { s with cache:=D } ⟨rfl,rfl,rfl,b₃ (b₀ _),bV _ _⟩
   ·exact rv
   ·exact mm
  ·rw [if_pos (by simpa using h)]
   dsimp only
   refine ad ?_
   refine av [ag 0,ag 1,ag 2,ag 3,ag 4,ag 5] ?_
   refine ad ?_
   refine aw ?_
   refine⟨[_,_],[],[(3,s.ents.length)],rfl,rfl,?_,rfl,⟨?_,?_,trivial⟩,?_⟩
   ·exact⟨by show s.ents.length≤(s.ents.map au).length;simp,trivial⟩
   ·exact vn { s with cache:=P } ⟨rfl,rfl,rfl,b₃ (b₀ _),bV _ _⟩
   ·exact rv
   ·exact mm
 have hc: ¬ r.code≠0:=by simpa using h
 rw [if_neg hc]
 refine ad ?_
 refine yc (b8) [(0,3)] ?_
 refine ad ?_
 refine ae rfl ?_ ?_ <;> intro h
 ·have ho:okk=false:=by simpa using h
  rw [if_pos ho]
  unfold pG fw
  dsimp only
  refine ad ?_
  refine kX (c7) ?_
  refine aw ?_
  refine⟨[_,_],[],[(3,s.ents.length)],rfl,rfl,?_,rfl,⟨?_,?_,trivial⟩,?_⟩
  ·exact⟨by show s.ents.length≤(s.ents.map au).length;simp,trivial⟩
  ·exact vn { s with cache:=D } ⟨rfl,rfl,rfl,b₃ (b₀ _),bV _ _⟩
  ·exact rv
  ·exact mm
 ·have ho: ¬ okk=false:=by simpa using h
  rw [if_neg ho]
  unfold pG LO
  dsimp only
  refine ad ?_
  refine av [ag 0,ag 1,ag 2,ag 3,ag 4,da 5,ag 6,ag 7,ag 8,ag 9,ag 10,ag 11,ag 12] ?_
  refine ad ?_
  refine bB rfl (fun _ h=>h) rfl [3] (c9) [(0,3)] [] ⟨rfl,trivial,rfl,lm,mm⟩ rfl rfl rfl rfl rfl ?_
  refine ad ?_
  refine aw ?_
  exact en [_,_]
theorem pR [FX:Fx] {B:Nat} (s:cL) (raw:List UInt8) (peer:Int) (hraw:raw.length≤1000000) (hs:dU B s) (hB:B≤100000) (hi:cZ s) :
  aL Tryz.prog GU 21 [dq s, .sl raw.length (u8s raw), .int .i64 peer] [] 0 (.tup [dq (aO s raw peer).1,pG (aO s raw peer).2]) [] 0:=by
 by_cases h1:s.cfg.maxTx < (raw.length:Int)
 ·exact mP s raw peer hraw hs hB hi fun h=>absurd h1 h
 by_cases h2:s.cfg.blkB < (iE raw.length:Int)
 ·exact mP s raw peer hraw hs hB hi fun _ h=>absurd h2 h
 rcases pF (aT raw) s.ents with hR | ⟨i,hR,hin⟩
 ·by_cases h4:0≤posK (aT raw) s.cache 0
  ·exact mP s raw peer hraw hs hB hi fun _ _=>⟨.inr h4, .inl hR⟩
  ·exact Ky s raw peer hraw hs hB hi h1 h2 om h4
 by_cases hp:dt peer=true
 ·by_cases hn:peer∈s.ents[i].peers
  ·exact mP s raw peer hraw hs hB hi fun _ _=>⟨.inl om, .inr ⟨i,hin,hR,fun _=>hn⟩⟩
  ·have h:=Kx s raw peer hraw hs hB hi h1 h2 i hin hR hp hn
   have hC:aO s raw peer=(dj (bm s (aT raw)) (i:Int) peer,fw 23):=by
    unfold aO
    dsimp only
    rw [if_neg h1,if_neg h2,if_pos (.inl om),hR]
   rw [hC]
   exact h
 ·exact mP s raw peer hraw hs hB hi fun _ _=>⟨.inl om, .inr ⟨i,hin,hR,fun h=>absurd h hp⟩⟩
end
section
attribute [local irreducible] aj aC aG aM aQ vC aY aA
theorem BC (c:nD) (acs:List aW) (hc:Pq c) (hl:acs.length≤100000) (hsm: ∀a∈acs,qw a) (hp:bl c.price):aL Tryz.prog GU 16 [cfM c, .sl acs.length (acs.map bd)] [] 0 (.tup [dq (jQ c acs).1, .int .i64 (jQ c acs).2]) [] 0:=by
 have cv:=Kp (G:=GU) c hc;have ci:=Ku acs c.price hl hsm hp;unfold jQ;generalize jx c=v at *;generalize fM acs c.price=ia at *;obtain⟨a0,ea⟩:=ia;dsimp only at ci ⊢;by_cases hv:v=0;rotate_left
 ·rw [if_pos hv];refine bU seat Tryz.func16 29 ?_;refine ad ?_;refine bL (cv) ?_;refine ae rfl ?_ ?_ <;> intro h
  ·refine ad ?_;refine aw ?_;refine⟨[_,_],[],[],rfl,rfl,trivial,rfl,⟨?_,?_,trivial⟩,?_⟩
   ·exact sw
   ·exact rv
   ·exact mm
  ·exact absurd (by simpa using h) hv
 ·subst hv;rw [if_neg sm];by_cases he:ea=0;rotate_left
  ·rw [if_pos he];refine bU seat Tryz.func16 29 ?_;refine ad ?_;refine bL (cv) ?_;refine kX (ci) ?_;refine ae rfl ?_ ?_ <;> intro h
   ·refine ad ?_;refine aw ?_;refine⟨[_,_],[],[],rfl,rfl,trivial,rfl,⟨?_,?_,trivial⟩,?_⟩
    ·exact sw
    ·exact rv
    ·exact mm
   ·exact absurd (by simp at h;omega) he
  ·subst he;rw [if_neg sm];refine bU seat Tryz.func16 29 ?_;refine ad ?_;refine bL (cv) ?_;refine kX (ci) ?_;refine aw ?_;exact en [_,_]
end
section
variable {G:GS}
attribute [local irreducible] aj aC aG aM aQ vC aY aA
theorem Pu (a:List UInt8) (b s:Int):Hl (.st [.str a, .int .u64 b, .int .u64 s]) (.st [.str a, .int .u64 b, .int .u64 s])=some true:=by
 simp [Hl,rT]
theorem Pv (f:Nat) (a:List UInt8):dD tab (f + 1) 9 (.str a)=true:=by rw [dD.eq_def];rfl
theorem Kz (f:Nat) (n:Int):dD tab (f + 1) 22 (.int .u64 n)=true:=by rw [dD.eq_def];rfl
theorem bN {T:bh} {f o t:Nat} {fs:List (Nat×TypeId)} {m:MV} {l:List MV} {sz:Nat} {d:TD} (ht:bh.find T t=some d) (hs:m.size=d.size) (hm:dD T f t m=true) (h:iJ T f fs (o + d.size) l sz=true):iJ T f ((o,t) :: fs) o (m :: l) sz=true:=by
 rw [iJ.eq_def];dsimp only;rw [ht];dsimp only;rw [hs,hm,h,d₀,d₀];rfl
theorem vp {T:bh} {f n:Nat}:iJ T f [] n [] n=true:=by rw [iJ.eq_def];exact d₀ n
theorem EX (a:List UInt8) (b s:Int):dD tab 9 87 (.st [.str a, .int .u64 b, .int .u64 s])=true:=by
 have h1:bh.find tab 87=some (.struct [(0,9),(1,22),(2,22)] 3):=by kernel_rfl
 rw [dD.eq_def];simp only [h1];exact bN (d:= .str) (by kernel_rfl) rfl (Pv 7 a) (bN (d:= .int .u64) (by kernel_rfl) rfl (Kz 7 b) (bN (d:= .int .u64) (by kernel_rfl) rfl (Kz 7 s) vp))
theorem Oy (a:List UInt8) (b s:Int):OF Tryz.prog tab 87=true∧dD tab 9 87 (.st [.str a, .int .u64 b, .int .u64 s])=true∧dD tab 9 87 (.st [.str a, .int .u64 b, .int .u64 s])=true:=⟨by kernel_rfl,EX a b s,EX a b s⟩
theorem vq (l:fH) (hl:l.acs.length < 1000000000):aD Tryz.prog G 87 [lgM l,lgM l] (.bool true):=by
 obtain⟨acs,col⟩:=l;unfold lgM;dsimp only at *;refine bf seat Tryz.func87 38 ?_;refine eV ?_;refine ar Nat (fun k=> [(23, .int .i64 k),(22, .int .i64 acs.length),(3, .ptr 1 2 0 0 []),(2, .ptr 0 2 0 0 [])]) (fun _=> [(0,⟨36,2,false,0,[.st [.sl acs.length (acs.map bd), .int .u64 col]]⟩),(1,⟨36,2,false,0,[.st [.sl acs.length (acs.map bd), .int .u64 col]]⟩)]) 2 (fun k=>k≤acs.length) (fun k=>acs.length - k) 0 (a₁ _) (vm [(0,_),(1,_)] []) ?_;intro k hk;try dsimp only
 refine ad ?_;refine ae rfl ?_ ?_ <;> intro h
 ·have hk':k < acs.length:=by have:=ot h;omega
  have hel:=eY hk';generalize acs[k] =a at *;obtain⟨nm,bal,seq⟩:=a;replace hel:db (acs.map bd) acs.length (k:Int)=some (.st [.str nm, .int .u64 bal, .int .u64 seq]):=hel;have hel:=al.mk hel;have he:=al.mk (Pu nm bal seq);have hsd:=bJ.mk (Oy nm bal seq);refine ad ?_;refine av [ag 0,ag 1,ag 2,ag 3,ag 4,ag 5,ag 6,ag 7,ag 8,ag 9,ag 10] ?_;refine ad ?_;refine ae rfl ?_ ?_ <;> intro h
  ·exact absurd h sm
  refine ad ?_;exact⟨k + 1,by show k + 1≤acs.length;omega,by show acs.length - (k + 1) < acs.length - k;omega,(by dsimp only;exact(vm [(0,_),(1,_)] []))⟩
 ·refine ad ?_;refine aw ?_;rfl
theorem Hg (a:nC) (ha:gz a):aD Tryz.prog G 45 [appM a,appM a] (.bool true):=by
 have c1:=vq (G:=G) a.com (by have:=ha.1.1;omega);have c2:=vq (G:=G) a.chk (by have:=ha.2.1.1;omega);have c3:=vq (G:=G) a.nxt (by have:=ha.2.2.1.1;omega);obtain⟨⟨a1,b1⟩,⟨a2,b2⟩,⟨a3,b3⟩,op,price⟩:=a;unfold appM lgM at *;dsimp only at *;cases op;all_goals(
  refine bf seat Tryz.func45 38 ?_
  refine eV ?_
  refine yv (c1) ?_
  refine eV ?_
  refine yv (c2) ?_
  refine eV ?_
  refine yv (c3) ?_
  refine eV ?_
  refine aw ?_
  rfl)
end
section
variable {G:GS}
attribute [local irreducible] aj aC aG aM aQ vC aY aA
theorem BD (a:List UInt8):aD Tryz.prog G 113 [.sl a.length (u8s a), .sl a.length (u8s a)] (.bool true):=by
 have hb:=al.mk (eH a);refine bf seat Tryz.func113 10 ?_;refine eV ?_;refine aw ?_;rfl
theorem Dr (l:List Int) (hl:l.length < 1000000000):aD Tryz.prog G 130 [bS l,bS l] (.bool true):=by
 unfold bS;refine bf seat Tryz.func130 26 ?_;refine eV ?_;refine ar Nat (fun k=> [(13, .int .i64 k),(12, .int .i64 l.length),(1, .sl l.length (l.map (.int .i64))),(0, .sl l.length (l.map (.int .i64)))]) (fun _=> []) 0 (fun k=>k≤l.length) (fun k=>l.length - k) 0 (a₁ _) (vm [] []) ?_;intro k hk;try dsimp only
 refine ad ?_;refine ae rfl ?_ ?_ <;> intro h
 ·have hk':k < l.length:=by have:=ot h;omega
  have hel:=al.mk (po hk');generalize l[k] =a at *;refine ad ?_;refine av [ag 0,ag 1,ag 2,ag 3,ag 4,ag 5,ag 6,ag 7,ag 8] ?_;refine eV ?_;exact⟨k + 1,by show k + 1≤l.length;omega,by show l.length - (k + 1) < l.length - k;omega,(by dsimp only;exact(vm [] []))⟩
 ·refine ad ?_;refine aw ?_;rfl
theorem pS (k:List UInt8):Hl (keyM k) (keyM k)=some true:=by rw [qy rfl];simp
theorem hX (l:List (List UInt8)) (hl:l.length < 1000000000):aD Tryz.prog G 27 [.sl l.length (l.map keyM), .sl l.length (l.map keyM)] (.bool true):=by
 refine bf seat Tryz.func27 26 ?_;refine eV ?_;refine ar Nat (fun k=> [(13, .int .i64 k),(12, .int .i64 l.length),(1, .sl l.length (l.map keyM)),(0, .sl l.length (l.map keyM))]) (fun _=> []) 0 (fun k=>k≤l.length) (fun k=>l.length - k) 0 (a₁ _) (vm [] []) ?_;intro k hk;try dsimp only
 refine ad ?_;refine ae rfl ?_ ?_ <;> intro h
 ·have hk':k < l.length:=by have:=ot h;omega
  have hel:=al.mk (lz hk');have q1:=al.mk (pS l[k]);have s1:=bJ.mk (ig l[k] l[k]);generalize l[k] =a at *;refine ad ?_;refine av [ag 0,ag 1,ag 2,ag 3,ag 4,ag 5,ag 6,ag 7,ag 8] ?_;refine ad ?_;exact⟨k + 1,by show k + 1≤l.length;omega,by show l.length - (k + 1) < l.length - k;omega,(by dsimp only;exact(vm [] []))⟩
 ·refine ad ?_;refine aw ?_;rfl
theorem BE (e:Ent) (hp:e.peers.length < 1000000000):aD Tryz.prog G 88 [au e,au e] (.bool true):=by
 obtain⟨e1,e2,e3,e4,e5,e6,e7,e8,e9,e10⟩:=e;have q1:=al.mk (pS e1);have s1:=bJ.mk (ig e1 e1);have c1:=BD (G:=G) e2;have c2:=Dr (G:=G) e10 hp;unfold au bS at *;dsimp only at *;refine bf seat Tryz.func88 73 ?_;refine eV ?_;refine yv (c1) ?_;refine eV ?_;refine yv (c2) ?_;refine eV ?_;refine aw ?_;rfl
theorem vY (l:List Ent) (hl:l.length < 1000000000) (hok: ∀e∈l,e.peers.length < 1000000000):aD Tryz.prog G 46 [.sl l.length (l.map au), .sl l.length (l.map au)] (.bool true):=by
 refine bf seat Tryz.func46 27 ?_;refine eV ?_;refine ar Nat (fun k=> [(13, .int .i64 k),(12, .int .i64 l.length),(1, .sl l.length (l.map au)),(0, .sl l.length (l.map au))]) (fun _=> []) 0 (fun k=>k≤l.length) (fun k=>l.length - k) 0 (a₁ _) (vm [] []) ?_;intro k hk;try dsimp only
 refine ad ?_;refine ae rfl ?_ ?_ <;> intro h
 ·have hk':k < l.length:=by have:=ot h;omega
  have c1:=BE (G:=G) l[k] (hok _ (c₅ hk'));have hel:=al.mk (dS hk');generalize l[k] =e at *;refine ad ?_;refine av [ag 0,ag 1,ag 2,ag 3,ag 4,ag 5,ag 6,ag 7,da 8,ag 9] ?_;refine ad ?_;refine du (c1) ?_;exact⟨k + 1,by show k + 1≤l.length;omega,by show l.length - (k + 1) < l.length - k;omega,(by dsimp only;exact(vm [] []))⟩
 ·refine ad ?_;refine aw ?_;rfl
theorem Oz (f:Nat) (b:Bool):dD tab (f + 1) 4 (.bool b)=true:=by rw [dD.eq_def];rfl
theorem OA (c:nD):Hl (cfM c) (cfM c)=some true:=by simp [Hl,rT]
theorem BF (c:nD):dD tab 9 24 (cfM c)=true:=by
 have h1:bh.find tab 24=some (.struct [(0,3),(1,3),(2,3),(3,3),(4,3),(5,3),(6,4),(7,3),(8,3),(9,22),(10,3),(11,3)] 12):=by kernel_rfl
 have I:bh.find tab 3=some (.int .i64):=by kernel_rfl
 rw [dD.eq_def];simp only [h1];exact bN I rfl (nL 7 _) (bN I rfl (nL 7 _) (bN I rfl (nL 7 _) (bN I rfl (nL 7 _) (bN I rfl (nL 7 _) (bN I rfl (nL 7 _) (bN (d:= .bool) (by kernel_rfl) rfl (Oz 7 _) (bN I rfl (nL 7 _) (bN I rfl (nL 7 _) (bN (d:= .int .u64) (by kernel_rfl) rfl (Kz 7 _) (bN I rfl (nL 7 _) (bN I rfl (nL 7 _) vp)))))))))))
theorem MA (c:nD):OF Tryz.prog tab 24=true∧dD tab 9 24 (cfM c)=true∧dD tab 9 24 (cfM c)=true:=⟨by kernel_rfl,BF c,BF c⟩
theorem mQ (s:cL) (ha:gz s.app) (hl:s.ents.length < 1000000000) (hok: ∀e∈s.ents,e.peers.length < 1000000000) (hc:s.cache.length < 1000000000):aD Tryz.prog G 18 [dq s,dq s] (.bool true):=by
 have q1:=al.mk (OA s.cfg);have s1:=bJ.mk (MA s.cfg);have c1:=Hg (G:=G) s.app ha;have c2:=vY (G:=G) s.ents hl hok;have c3:=hX (G:=G) s.cache hc;refine bf seat Tryz.func18 52 ?_;refine eV ?_;simp only [eq_self,decide_true,Bool.and_self,Bool.and_true,BEq.rfl];refine eV ?_;refine yv (c1) ?_;refine eV ?_;refine yv (c2) ?_;refine eV ?_;refine yv (c3) ?_;refine eV ?_;refine aw ?_;rfl
abbrev Hq (c:Int) (key:List UInt8) (p:Int) (ks:List (List UInt8)):Gj:=⟨c,u8s key,p,(ks.length,ks.map keyM),(0,[]),(0,[]),(0,[]),(0,[]),(0,[]),0,k0⟩
theorem rR (c:Int) (key:List UInt8) (p:Int) (ks:List (List UInt8)) (hl:ks.length < 1000000000):aD Tryz.prog G 23 [pG (Hq c key p ks),pG (Hq c key p ks)] (.bool true):=by
 have q1:=al.mk (pS key);have s1:=bJ.mk (ig key key);have q2:=al.mk (pS (a₀ 32 0));have s2:=bJ.mk (ig (a₀ 32 0) (a₀ 32 0));have c1:=hX (G:=G) ks hl;have c2:=hX (G:=G) [] (by decide);have c3:=AB (G:=G) [] [] (by decide) (by decide);unfold pG keyM Eh at *;dsimp only at *;refine bf seat Tryz.func23 80 ?_;refine eV ?_;refine yv (c1) ?_;refine eV ?_;refine yv (c2) ?_;refine eV ?_;refine yv (c2) ?_;refine eV ?_;refine yv (c2) ?_;refine eV ?_;refine yv (c2) ?_;refine eV ?_;refine yv (c3) ?_;refine eV ?_;refine aw ?_;rfl
end
section
variable {G:GS}
attribute [local irreducible] aj aC aG aM aQ vC aY aA
def OG:Nat→List UInt8
 | 0=> [97,110,110]
 | 1=> [98,111,98]
 | 2=> [101,118,101]
 | _=> [122,111,101]
theorem MC {k:Nat} (hk:k < 4): ∃nm:List UInt8,bK [MV.str [97,110,110],MV.str [98,111,98],MV.str [101,118,101],MV.str [122,111,101]] (0 + k)=some (.str nm)∧nm.length≤5∧nm=OG k:=by
 have h4:k=0∨k=1∨k=2∨k=3:=om;rcases h4 with rfl | rfl | rfl | rfl <;> exact⟨_,rfl,by decide,rfl⟩
theorem MD {k:Nat} (hk:k < 5): ∃v:Nat,bK [MV.int .u64 100000,MV.int .u64 5000,MV.int .u64 700,MV.int .u64 0,MV.int .u64 1099511627776] (0 + k)=some (.int .u64 (v:Int))∧bl v∧v≤1099511627776:=by
 have h5:k=0∨k=1∨k=2∨k=3∨k=4:=om;rcases h5 with rfl | rfl | rfl | rfl | rfl
 ·exact⟨100000,rfl,by decide,by decide⟩
 ·exact⟨5000,rfl,by decide,by decide⟩
 ·exact⟨700,rfl,by decide,by decide⟩
 ·exact⟨0,rfl,by decide,by decide⟩
 ·exact⟨1099511627776,rfl,by decide,by decide⟩
theorem ME {i k:Nat} (hi:i < 4) (hk:k < 4) (h:OG i=OG k):i=k:=by
 have h4:i=0∨i=1∨i=2∨i=3:=om;have k4:k=0∨k=1∨k=2∨k=3:=om;rcases h4 with rfl | rfl | rfl | rfl <;> rcases k4 with rfl | rfl | rfl | rfl <;> first | rfl | exact absurd h (by decide)
theorem OB {k:Nat} (hk:k < 4):bW (OG k)=true:=by
 have k4:k=0∨k=1∨k=2∨k=3:=om;rcases k4 with rfl | rfl | rfl | rfl <;> decide
structure KI (j:Nat) (acs:List aW):Prop where
 nm: ∀a∈acs,∃k,j≤k∧k < 4∧a.name=OG k
 ne:acs.Pairwise fun a b=>a.name≠b.name
 bal: ∀a∈acs,a.bal≤1099511627776
theorem KI.push {i:Nat} {acs:List aW} {nm:List UInt8} {b s:Nat} (h:KI (i + 1) acs) (hn:nm=OG i) (hb:b≤1099511627776) (hi:i < 4):KI i (acs ++ [⟨nm,b,s⟩]):=by
 subst hn;refine⟨fun a ha=>?_,List.pairwise_append.2 ⟨h.ne,List.pairwise_singleton _ _,fun a ha c hc e=>?_⟩,fun a ha=>?_⟩
 ·rcases b₈.1 ha with ha | ha
  ·obtain⟨k,h1,h2,h3⟩:=h.nm a ha;exact⟨k,om,h2,h3⟩
  ·rw [a₃.1 ha];exact⟨i,b₅ _,hi,rfl⟩
 ·obtain⟨k,h1,h2,h3⟩:=h.nm a ha;rw [a₃.1 hc,h3] at e;have:=ME h2 hi e;omega
 ·rcases b₈.1 ha with ha | ha
  ·exact h.bal a ha
  ·rw [a₃.1 ha];exact hb
theorem KI.mono {j:Nat} {acs:List aW} (h:KI j acs):KI 0 acs:=⟨fun a ha=>by obtain⟨k,_,h2,h3⟩:=h.nm a ha;exact⟨k,a₁ _,h2,h3⟩,h.ne,h.bal⟩
theorem EY: ∀(r:List aW) (ks:List (List UInt8)),(∀a∈r,bW a.name=true)→r.Pairwise (fun a b=>a.name≠b.name)→(∀a∈r,a.name ∉ ks)→r7 r ks=0
 | [],_,_,_,_=>rfl
 | a :: r,ks,h1,h2,h3=>by
  have hp:=List.pairwise_cons.1 h2
  rw [r7,if_neg (by rw [h1 a (c₀ ..)];simp),if_neg (h3 a (c₀ ..))]
  refine EY r _ (fun b hb=>h1 b (b₉ _ hb)) hp.2 fun b hb hm=>?_
  rcases b₈.1 hm with hm | hm
  ·exact h3 b (b₉ _ hb) hm
  ·exact hp.1 b hb (a₃.1 hm).symm
theorem EZ: ∀(l:List aW) (B:Nat),(∀a∈l,a.bal≤B)→gl l≤l.length * B
 | [],_,_=>a₁ _
 | a :: r,B,h=>by
  have:=EZ r B fun x hx=>h x (b₉ _ hx)
  have:=h a (c₀ ..)
  rw [nr,List.length_cons,Nat.succ_mul]
  omega
theorem MF {acs:List aW} (h:KI 0 acs) (hl:acs.length≤4):(ln acs).2=0:=by
 have h1:(i7 acs []).2=0:=by
  rw [CY acs [] [] List.Pairwise.nil (fun nm=>by simp [aS])];exact EY acs [] (fun a ha=>by obtain⟨k,_,h2,h3⟩:=h.nm a ha;rw [h3];exact OB h2) h.ne sm
 have h2:=CZ acs [] List.Pairwise.nil h1;have hb:=EZ acs 1099511627776 h.bal;have hm:acs.length * 1099511627776≤4 * 1099511627776:=b₇ _ hl;have h3:(totS (i7 acs []).1 0).2=true:=by
  rw [wS (m:=acs) (by simpa using h2.2)];exact(qJ acs 0).2 (.inr om)
 unfold ln;rw [if_neg om,if_neg (by rw [h1];simp),if_neg (by rw [h3];simp)]
theorem KA {acs:List aW} {p:Nat} (h:KI 0 acs) (hl:acs.length≤4):(fM acs p).2=0:=by
 unfold fM;rw [if_neg (by rw [MF h hl];simp)]
theorem BG (L:List Int) (N:Nat) (hN:N < 4000000000000000000):CJ G L 15 [numP] N fun r N'=> ∃acs:List aW,acs.length≤4∧(∀a∈acs,eX a)∧KI 0 acs∧N'≤N + 14∧r= .sl acs.length (acs.map bd):=by
 obtain⟨m,hm,cm⟩:=cQ (G:=G) L N 4 om om om;unfold CJ;refine gR seat Tryz.func15 rfl rfl (a₆ rfl) (a₆ rfl) (N:=36) rfl rfl ?_;refine ad ?_;refine yc (cm) [(0,0)] ?_;refine ad ?_;refine ar (Nat×Nat×List aW) (fun x=> [(4, .int .i64 ((x.1:Int) - 1)),(3, .ms 1 3 0 x.2.2.length),(0,numP)]) (fun x=>ek L x.2.1 ++ [(1,⟨87,3,true,0,x.2.2.map bd⟩)]) 2 (fun x=>x.1 + x.2.2.length≤4∧x.2.1 + 3 * x.1≤N + 14∧(∀a∈x.2.2,eX a)∧KI x.1 x.2.2) (fun x=>x.1) (m + 1,N + 1,[]) ⟨by simp;omega,dm,sm,⟨sm,List.Pairwise.nil,sm⟩⟩ (by dsimp only;exact vm [] []) ?_;rintro⟨j,K,acs⟩ ⟨h1,h2,h3,h4⟩;try dsimp only
 dsimp only at h1 h2 h3 h4;refine ad ?_;refine ae rfl ?_ ?_ <;> intro h
 ·have hj:1≤j:=by have:=ot h;omega
  obtain⟨i,rfl⟩: ∃i,j=i + 1:=⟨j - 1,om⟩
  have hcast:((i + 1:Nat):Int) - 1=(i:Int):=om;rw [hcast];obtain⟨nm,f1,g1,gn⟩:=MC (k:=i) om;obtain⟨x5,hx5,c5⟩:=cQ (G:=G) L K 5 om om om;obtain⟨bal,f2,g2,gb⟩:=MD (k:=x5) hx5;obtain⟨x6,hx6,c6⟩:=cQ (G:=G) L (K + 1) 6 om om om;obtain⟨x3,hx3,c3⟩:=cQ (G:=G) L (K + 1 + 1) 3 om om om;obtain⟨sq,f3,g3⟩:=IZ (k:=x3) hx3;have f1:=al.mk f1;have f2:=al.mk f2;have f3:=al.mk f3;have i1:=al.mk (cB (n:=4) (k:=i) om);have i2:=al.mk (cB hx5);have i3:=al.mk (cB hx3);have hll:(acs.map bd).length=acs.length:=sm;refine ad ?_;refine av [ag 0,ag 1,ag 2,ag 3,ag 4,ag 5,da 6,ag 7,ag 8,ag 9,ag 10,ag 11] ?_;refine ad ?_;refine bB rfl (fun _ h=>h) rfl [0] (c5) [(0,0)] [] ⟨rfl,trivial,rfl,lm,mm⟩ rfl rfl rfl rfl rfl ?_;refine ad ?_;refine yc (c6) [(0,0)] ?_;refine ad ?_;refine ae rfl ?_ ?_ <;> intro h
  ·refine ad ?_;refine yc (c3) [(0,0)] ?_;refine ad ?_;refine bc rfl rfl (by intro R hR;refine dZ hR ?_;(refine a₂ (b₅ _) ?_;refine⟨_,rfl,?_⟩;refine a₂ ⟨hll,aF (by kernel_rfl) pf⟩ ?_;refine⟨(acs ++ [(⟨nm,bal,sq⟩:aW)]).map bd,sv (by rw [c₆];rfl),acs.length + 1,sv pf,?_⟩);exact hR) rfl ?_;refine ad ?_;exact⟨(i,K + 1 + 1 + 1,acs ++ [⟨nm,bal,sq⟩]),⟨by dsimp only;rw [a₅,a₄];omega,dm,fj h3 fun a ha=>by rw [a₃.1 ha];exact⟨dm,g2,g3⟩,h4.push gn gb om⟩,dm,(by dsimp only;rw [a₅,a₄];exact(vm [(1,_)] []))⟩
  ·refine ad ?_;refine bc rfl rfl (by intro R hR;refine dZ hR ?_;(refine a₂ (b₅ _) ?_;refine⟨_,rfl,?_⟩;refine a₂ ⟨hll,aF (by kernel_rfl) pf⟩ ?_;refine⟨(acs ++ [(⟨nm,bal,0⟩:aW)]).map bd,sv (by rw [c₆];rfl),acs.length + 1,sv pf,?_⟩);exact hR) rfl ?_;refine ad ?_;exact⟨(i,K + 1 + 1,acs ++ [⟨nm,bal,0⟩]),⟨by dsimp only;rw [a₅,a₄];omega,dm,fj h3 fun a ha=>by rw [a₃.1 ha];exact⟨dm,g2,by simp [bl]⟩,h4.push gn gb om⟩,dm,(by dsimp only;rw [a₅,a₄];exact(vm [(1,_)] []))⟩
 ·refine ad ?_;refine⟨_,_,_,⟨K,⟨⟨acs,om,h3,h4.mono,om,rfl⟩,rfl⟩,rfl,rfl⟩,?_⟩;refine⟨[_],[],[(1,acs.length)],rfl,rfl,?_,rfl,⟨?_,trivial⟩,?_⟩
  ·exact⟨by show acs.length≤(acs.map bd).length;simp,trivial⟩
  ·exact .inr ⟨rfl,rfl,rfl,b₃ (b₀ _),bV bd acs⟩
  ·exact mm
end
section
attribute [local irreducible] aj aC aG aM aQ vC aY aA
section
variable {T:bh} {rs:List ResultVar} {M:VM} {E:VE} {n:Nat}
theorem Pw {Φ:MV→VM→Nat→Prop} (vs rv:List MV) (M1:VM) (n1:Nat) (σ bs:List (Nat×Nat)) (h1:dW T M E rs (fun v=>v=vs)) (hm:eh 0 rv M1 n1 vs M σ bs) (hΦ:Φ (kV rv) M1 n1):DY T 0 rs Φ .ret E M n:=
 gS (fun v hv=>by subst hv;exact⟨kV rv,M1,n1,hΦ,rv,σ,bs,rfl,hm⟩) h1
end
theorem vr {B:Nat} [FX:Fx] {s:cL} (raw:List UInt8) (peer:Int) (hs:dU B s): ∃c key p ks,ks.length≤B∧(aO s raw peer).2=Hq c key p ks:=by
 have he: ∀c:Int,∃c2 key p ks,ks.length≤B∧fw c=Hq c2 key p ks:=fun c=>⟨c,a₀ 32 0,0,[],a₁ _,rfl⟩
 unfold aO;split
 ·exact he _
 split
 ·exact he _
 dsimp only;split
 ·exact he _
 have hp:=hs.ents;have hso:=fun p=>yu p raw.length s.cfg.maxTxs s.cfg.maxBytes s.ents (fun e he=>(hs.entk e he).key)
 unfold fB;dsimp only;split
 ·exact he _
 split
 ·exact he _
 split
 ·exact he _
 ·exact⟨0,_,_,_,by have:=(hso ↑(bM (bm s (aT raw)).app raw).prio).2;show(cK _ _ _ _ _).1.length≤_;dsimp only [bm] at *;omega,rfl⟩
abbrev pT:Fx:=⟨fun _ _ _ _ _=>True⟩
abbrev Px (s:cL):Prop:=kv pT 40 s∧cZ s
abbrev Py (L:List Int) (r:MV) (M:VM) (k:Nat):Prop:= ∃(N:Nat) (s:cL),N≤100000000∧r= .tup [dq s,dq s,numP, .bool true] ∧M=ek L N∧k=1∧Px s
theorem yT (L:List Int):vJ Tryz.prog GU 19 [bS L] [] 0 (Py L):=by
 refine gR seat Tryz.func19 rfl rfl (a₆ rfl) (a₆ rfl) (N:=129) rfl rfl ?_;refine ad ?_;refine yc (NM (G:=GU) L) [] ?_;refine BI ?_;refine iW ([(2, .ptr 1 25 0 0 []),(3, .ptr 2 25 0 0 []),(6,numP)]) (ek L 0 ++ [(1,⟨42,25,false,0,[pH]⟩),(2,⟨42,25,false,0,[pH]⟩)]) (3) (vm [(0,_),(1,_),(2,_)] []) ?_;refine ad ?_;refine AK rfl (fun _ h=>h) rfl (I0 (G:=GU) L 0 om) rfl 0 [] ⟨rfl,trivial,rfl,lm,mm⟩ rfl ?_;rintro _ K1 ⟨c,hc,hK1,rfl⟩;refine ad ?_;refine AK rfl (fun _ h=>h) rfl (BG (G:=GU) L K1 om) rfl 0 [] ⟨rfl,trivial,rfl,lm,mm⟩ rfl ?_;rintro _ K2 ⟨acs,ha,hsm,hag,hK2,rfl⟩;refine ad ?_;have hvc:=Dq hc;have hin:=KA (p:=c.price) hag ha;have c1:=BC c acs (Kq hc) om (fun a h=>(hsm a h).wd) hc.price;have c2:=Kv (G:=GU) c acs om (fun a h=>(hsm a h).wd) hc.price;have hst:jQ c acs=(⟨c,(fM acs c.price).1,0,0,0,[],[]⟩,0):=by
  unfold jQ;rw [if_neg (by rw [hvc];simp),if_neg (by rw [hin];simp)]
 rw [hst] at c1 c2;have hap:=AH (p:=c.price) hsm hc.price;generalize (fM acs c.price).1=a at *;dsimp only at c1 c2;clear hst hvc hin hag;refine cH (c1) rfl rfl (fun _ h=>h) (by kernel_rfl) ?_;refine ad ?_;refine cH (c2) rfl rfl (fun _ h=>h) (by kernel_rfl) ?_;have c3:=mQ (G:=GU) ⟨c,a,0,0,0,[],[]⟩ hap sm sm sm;clear c1 c2 hsm ha;refine ad ?_;refine cH (aa (c3)) rfl rfl (fun _ h=>h) (by kernel_rfl) ?_;refine BI ?_;refine iW ([(46, .bool false),(2, .ptr 1 25 0 0 []),(3, .ptr 2 25 0 0 []),(6,numP),(7, .ptr 3 12 0 0 []),(9, .ptr 4 25 0 0 []),(11, .ptr 5 25 0 0 [])]) (ek L K2 ++ [(1,⟨42,25,false,0,[pH]⟩),(2,⟨42,25,false,0,[pH]⟩),(3,⟨24,12,false,0,[cfM c]⟩),(4,⟨42,25,false,0,[dq ⟨c,a,0,0,0,[],[]⟩]⟩),(5,⟨42,25,false,0,[dq ⟨c,a,0,0,0,[],[]⟩]⟩)]) (6) (vm [(0,_),(1,_),(2,_),(3,_),(4,_),(5,_)] []) ?_;clear c3;obtain⟨x0,hx0,cx0⟩:=cQ (G:=GU) L K2 5 om om om;obtain⟨x1,hx1,cx1⟩:=cQ (G:=GU) L (K2 + 1) 20 om om om;obtain⟨x2,hx2,cx2⟩:=cQ (G:=GU) L (K2 + 1 + 1) 10 om om om;have ho0:kv pT 20 ⟨c,a,x0,x1,0,[],[]⟩:=⟨hc,hap,dm,dm,dm,a₁ _,nofun,a₁ _,nofun,trivial⟩;have hi0:cZ ⟨c,a,x0,x1,0,[],[]⟩:=⟨hc.cache.1, .nil,by have:=hc.maxTxs;show((0:Nat):Int)≤c.maxTxs;omega,by have:=hc.maxBytes;show((bytesS [] :Nat):Int)≤c.maxBytes;simp [bytesS];omega, .nil,nofun, .nil,nofun⟩;refine ad ?_;refine yc (cx0) [(0,0)] ?_;refine ad ?_;refine yc (cx1) [(0,0)] ?_;refine ad ?_;refine av [ag 0,ag 1,ag 2,ag 3,ag 4,ag 5,ag 6,ag 7] ?_;refine ad ?_;refine yc (cx2) [(0,0)] ?_;refine ad ?_;refine ar (Nat×Nat×cL) (fun x=> [(13, .int .i64 x.1),(2, .ptr 1 25 0 0 []),(3, .ptr 2 25 0 0 []),(6,numP),(7, .ptr 3 12 0 0 []),(9, .ptr 4 25 0 0 []),(11, .ptr 5 25 0 0 [])])
  (fun x=>ek L x.2.1 ++ [(1,⟨42,25,false,0,[pH]⟩),(2,⟨42,25,false,0,[pH]⟩),(3,⟨24,12,false,0,[cfM c]⟩),(4,⟨42,25,false,0,[dq x.2.2]⟩),(5,⟨42,25,false,0,[dq x.2.2]⟩)]) 6
  (fun x=>x.1≤10∧x.2.1 + 1000 * x.1≤100000∧kv pT (30 - x.1) x.2.2∧cZ x.2.2) (fun x=>x.1) (x2,K2 + 1 + 1 + 1,⟨c,a,x0,x1,0,[],[]⟩) ⟨dm,dm,dU.mono (FX:=pT) ho0 dm,hi0⟩ (by dsimp only;exact(vm [(0,_),(1,_),(2,_),(3,_),(4,_),(5,_)] [])) ?_
 clear ho0 hi0 cx0 cx1 cx2;rintro⟨i,K,s⟩ ⟨h1,h2,hs,hinv⟩;try dsimp only
 dsimp only at h1 h2 hs hinv;refine ad ?_;refine ae rfl ?_ ?_ <;> intro h
 ·have hi:0 < i:=by have:=ot h;omega
  obtain⟨j,rfl⟩: ∃j,i=j + 1:=⟨i - 1,om⟩
  have hcast:((j + 1:Nat):Int) - 1=(j:Int):=om;have e1:=wP (G:=GU) L K s.app.chk c.price om hs.app.2.1 hc.price;have e2:=nh (L:=L) (N:=K) (price:=c.price) hs.app.2.1.2.2;generalize qB L K s.app.chk.acs c.price=rw' at *;obtain⟨raw,K3⟩:=rw';dsimp only at e1 e2;refine ad ?_;refine yc (e1) [(0,0)] ?_;refine ad ?_;refine si (List UInt8×Nat) (fun x=> [(14, .sl x.1.length (u8s x.1)),(13, .int .i64 (j + 1:Nat)),(2, .ptr 1 25 0 0 []),(3, .ptr 2 25 0 0 []),(6,numP),(7, .ptr 3 12 0 0 []),(9, .ptr 4 25 0 0 []),(11, .ptr 5 25 0 0 [])]) (fun x=>ek L x.2 ++ [(1,⟨42,25,false,0,[pH]⟩),(2,⟨42,25,false,0,[pH]⟩),(3,⟨24,12,false,0,[cfM c]⟩),(4,⟨42,25,false,0,[dq s]⟩),(5,⟨42,25,false,0,[dq s]⟩)]) (fun _=>6) (fun x=>x.1.length≤4096∧x.2≤K + 100) (fun JQ hj=>?_) (fun x hx=>?_)
  ·refine ah rfl rfl ?_ rfl ?_ <;> intro h
   ·have hne:0 < s.ents.length:=by simpa using h
    obtain⟨x3,hx3,cx3⟩:=cQ (G:=GU) L K3 6 om om om;refine ad ?_;refine yc (cx3) [(0,0)] ?_;refine ad ?_;refine ae rfl ?_ ?_ <;> intro h
    ·have hpos:0 < s.ents.length:=hne;obtain⟨x4,hx4,cx4⟩:=cQ (G:=GU) L (K3 + 1) s.ents.length hpos (by have:=hs.ents;omega) om;have hel:=al.mk (dS hx4);have her:=(hs.entk _ (c₅ hx4)).raw;generalize s.ents[x4] =e at *;obtain⟨e1,e2,e3,e4,e5,e6,e7,e8,e9,e10⟩:=e;unfold au at hel;dsimp only at her hel;refine ad ?_;refine av [ag 0,ag 1,ag 2,ag 3,ag 4,ag 5,da 6,ag 7,ag 8,ag 9,ag 10] ?_;refine ad ?_;refine bB rfl (fun _ h=>h) rfl [0] (cx4) [(0,0)] [] ⟨rfl,trivial,rfl,lm,mm⟩ rfl rfl rfl rfl rfl ?_;refine ad ?_;exact hj.nrm (e2,K3 + 1 + 1) ⟨dm,dm⟩ (by dsimp only;exact(vm [(0,_),(1,_),(2,_),(3,_),(4,_),(5,_)] []))
    ·refine ad ?_;exact hj.nrm (raw,K3 + 1) ⟨dm,dm⟩ (by dsimp only;exact(vm [(0,_),(1,_),(2,_),(3,_),(4,_),(5,_)] []))
   ·refine ad ?_;exact hj.nrm (raw,K3) ⟨dm,dm⟩ (by dsimp only;exact(vm [(0,_),(1,_),(2,_),(3,_),(4,_),(5,_)] []))
  ·obtain⟨tx,K4⟩:=x;obtain⟨htl,hK4⟩:=hx;dsimp only at htl hK4;obtain⟨x5,hx5,cx5⟩:=cQ (G:=GU) L K4 6 om om om;have c1:=pR (FX:=pT) s tx ((x5:Int) - 1) om hs om hinv;have c2:=I3 (G:=GU) (FX:=pT) s tx ((x5:Int) - 1) om hs om;obtain⟨rc,rk,rp,rl,hrl,hrq⟩:=vr (FX:=pT) tx ((x5:Int) - 1) hs;have hiv:=jG (raw:=tx) (peer:=(x5:Int) - 1) hs.cfg hinv;generalize aO s tx ((x5:Int) - 1)=C at *;obtain⟨s2,rq⟩:=C;dsimp only at c1 hrq hiv;subst hrq;have c4:=rR (G:=GU) rc rk rp rl om;refine ad ?_;refine yc (cx5) [(0,0)] ?_;refine ad ?_;refine cH (c1) rfl rfl (fun _ h=>h) (by kernel_rfl) ?_;refine ad ?_;refine uy (c2) rfl rfl (fun _ h=>h) (by kernel_rfl) ?_;rintro _ ⟨s',rp',rfl,hs',hq⟩;injection hq with hq1 hq2
   subst hq1;subst hq2;have c3:=mQ (G:=GU) s' hs'.app (by have:=hs'.ents;omega) (fun e he=>by have:=(hs'.entk e he).peers;omega) (by have:=hs'.cache;omega);refine ad ?_;refine cH (aa (c4)) rfl rfl (fun _ h=>h) (by kernel_rfl) ?_;refine ad ?_;refine cH (aa (c3)) rfl rfl (fun _ h=>h) (by kernel_rfl) ?_;refine ad ?_;refine av [ag 0,ag 1,ag 2,ag 3] ?_;refine ad ?_;exact⟨(j,K4 + 1,s'),⟨dm,dm,dU.mono (FX:=pT) hs' dm,hiv⟩,dm,(by dsimp only;exact(vm [(0,_),(1,_),(2,_),(3,_),(4,_),(5,_)] []))⟩
 ·refine ad ?_;refine av [ag 0,ag 1,ag 2,ag 3,ag 4,ag 5,ag 6] ?_;refine ad ?_;refine Pw [_,_,_,_] [dq s,dq s,numP, .bool true] (ek L K) 1 [(0,0)] [] (by exact QG) ⟨rfl,trivial,rfl,lm,mm⟩ ⟨K,s,om,rfl,rfl,rfl,dU.mono (FX:=pT) hs om,hinv⟩
end
section
variable [FX:Fx]
theorem Hh {B:Nat} {s:cL} (i peer:Int) (hs:dU B s):dU (B + 1) (dj s i peer):=by
 have hm:=hs.mono (B':=B + 1) om;unfold dj;split
 ·split
  ·rename_i e he;split
   ·exact hm
   ·have hmem:=c₇ he;have hk:=hs.entk _ hmem;refine⟨hm.cfg,hm.app,hm.height,hm.time,hm.arr,by dsimp only;rw [List.length_set];exact hm.ents,fun x hx=>?_,hm.cache,hm.ck,hm.fx⟩;rcases List.mem_or_eq_of_mem_set hx with hx | rfl
    ·exact hm.entk x hx
    ·exact⟨hk.key,hk.raw,hk.sender,hk.height,hk.time,by have:=hk.peers;dsimp only;rw [a₅,a₄];omega,hk.gas⟩
  ·exact hm
 ·exact hm
theorem vu {B:Nat}: ∀{s:cL} (l:List (List UInt8)),dU B s→dU B (fA s l)
 | s,[],h=>h
 | s,k :: l,h=>vu (s:=eJ (dC s k).1 k) l (kx (uu (k:=k) h))
theorem ow {B:Nat} {s:cL} (raw:List UInt8) (peer:Int) (hs:dU B s) (hB:B≤100000):dU (B + 1) (aO s raw peer).1:=by
 have hm:=hs.mono (B':=B + 1) om;have hk32:(aT raw).length=32:=gy raw;unfold aO;split
 ·exact hm
 rename_i h1;split
 ·exact hm
 dsimp only;have hp:=qD (B:=B) hs hk32;have hmx:=hs.cfg.maxTx;generalize aT raw=key at *;split
 ·exact Hh _ _ hp
 generalize bm s key=s1 at *;unfold fB;dsimp only;have hres:Ei (bM s1.app raw):=(ui hp.app.2.1).2;generalize bM s1.app raw=r at *;split
 ·exact(mD hp).mono om
 split
 ·exact(mD hp).mono om
 split
 ·exact(kx hp).mono om
 ·generalize (cK r.prio raw.length s1.cfg.maxTxs s1.cfg.maxBytes s1.ents).1=ks;have ho:=vu ks hp;unfold fS;dsimp only;generalize fA s1 ks=s2 at *;have hm:=ho.mono (B':=B + 1) om;have ha:=ho.arr;refine⟨hm.cfg,uj ho.app,hm.height,hm.time,dm,by have:=ho.ents;dsimp only;rw [a₅,a₄];omega,fun x hx=>?_,hm.cache,hm.ck,?_⟩
  ·rcases b₈.1 hx with hx | hx
   ·exact hm.entk x hx
   ·obtain rfl:=a₃.1 hx;have:=ho.height;have:=ho.time;unfold AT;exact⟨hk32,by dsimp only;omega,hres.2.1,by dsimp only;omega,by dsimp only;omega,by dsimp only;split <;> simp,by have:=hres.2.2.2.1;unfold bl at this;dsimp only;omega⟩
  ·exact hm.fx
end
section
attribute [local irreducible] aj aC aG aM aQ vC aY aA
def Hi:List aW:= [⟨[97,110,110],1000,0⟩,⟨[98,111,98],1000,0⟩]
def cfK:nD:=⟨1,100,100,5,0,0,false,200, -1,0,0,1⟩
def OC (nm:List UInt8) (fee:Nat):iP:=⟨nm,0,300,fee,[],[⟨[98,111,98],5⟩]⟩
def raw1:List UInt8:= [10,3,97,110,110,24,172,2,32,3,50,7,10,3,98,111,98,16,5]
def key1:List UInt8:= [239,225,42,207,95,68,72,85,197,255,123,8,10,148,164,198,33,249,109,148,219,54,48,129,85,225,24,238,72,170,121,111]
def raw2:List UInt8:= [10,3,98,111,98,24,172,2,32,2,50,7,10,3,98,111,98,16,5]
def Pz:List UInt8:= [102,127,128,88,233,9,190,213,155,154,94,105,132,125,185,77,158,79,181,144,118,219,8,238,240,194,254,167,22,6,134,99]
def raw3:List UInt8:= [10,3,98,111,98,24,172,2,32,30,50,7,10,3,98,111,98,16,5]
def key3:List UInt8:= [104,246,105,135,2,237,138,160,246,155,36,166,37,20,169,22,219,148,65,225,219,168,66,181,230,117,34,185,126,15,250,78]
theorem PF:aT raw1=key1:=by kernel_rfl
theorem Qg:aT raw2=Pz:=by kernel_rfl
theorem Qh:aT raw3=key3:=by kernel_rfl
theorem Qi:fk (OC [97,110,110] 3)=(raw1,0):=by kernel_rfl
theorem Qj:fk (OC [98,111,98] 2)=(raw2,0):=by kernel_rfl
theorem Qk:fk (OC [98,111,98] 30)=(raw3,0):=by kernel_rfl
theorem OD:(jQ cfK Hi).2=0:=by kernel_rfl
def qY (key:List UInt8) (s:cL) (raw:List UInt8) (peer:Int):cL×Gj:=
 if s.cfg.maxTx < (raw.length:Int) then(s,fw 20) else if s.cfg.blkB < (iE raw.length:Int) then(s,fw 21) else
 if 0≤jF key s.ents∨0≤posK key s.cache 0 then(dj (bm s key) (jF key s.ents) peer,fw 23) else fB (bm s key) key raw peer
theorem Hj {key raw:List UInt8} (s:cL) (peer:Int) (h:aT raw=key):aO s raw peer=qY key s raw peer:=by
 subst h;rfl
def PN:cL:=(jQ cfK Hi).1
def Qm:cL×Gj:=qY key1 PN raw1 2
def Qn:cL×Gj:=qY key1 Qm.1 raw1 3
def Qo:cL×Gj:=qY Pz Qn.1 raw2 0
def PO:cL×Gj:=qY key3 Qo.1 raw3 0
theorem q1:Qm.2=Hq 0 key1 10 [] :=by kernel_rfl
theorem q2:Qn.2=Hq 23 (a₀ 32 0) 0 [] :=by kernel_rfl
theorem q3:Qo.2=Hq 24 (a₀ 32 0) 0 [] :=by kernel_rfl
theorem q4:PO.2=Hq 0 key3 100 [key1] :=by kernel_rfl
theorem q5:PO.1.ents= [⟨key3,raw3,[98,111,98],0,300,100,0,0,1,[]⟩] :=by kernel_rfl
theorem q6:PO.1.cache= [key3] :=by kernel_rfl
end
section
attribute [local irreducible] aj aC aG aM aQ vC aY aA
set_option maxHeartbeats 140737488355328 in
theorem yU (k:List Int) (hk:k.length≤140737488355328):aD Tryz.prog GU 11 [.sl 1 [bS k]] (.bool (decide (160 < k.length))):=by
 refine bf seat Tryz.func11 19 ?_;refine ad ?_;refine ar Nat (fun j=> [(8, .int .i64 j),(7, .int .i64 1),(6, .sl 1 [bS k]),(3, .int .i64 ((j * k.length:Nat):Int))]) (fun j=> []) 0 (fun j=>j≤1) (fun j=>1 - j) 0 om (by rw [Nat.zero_mul];exact(vm [] [])) ?_;intro j hj;try dsimp only
 refine ad ?_;refine ae rfl ?_ ?_ <;> intro h
 ·have hj':j=0:=by have:=ot h;omega
  subst hj';rw [Nat.zero_mul];unfold bS;refine ad ?_;exact⟨1,by show 1≤1;omega,by show 1 - 1 < 1 - 0;omega,(by dsimp only;rw [Nat.one_mul];exact(vm [] []))⟩
 ·have hj':j=1:=by have:=oF h;omega
  subst hj';rw [Nat.one_mul];refine ad ?_;refine aw ?_
  show MV.bool (decide ((k.length:Int) > 160))=_
  congr 1;exact decide_eq_decide.2 om
theorem KC (nm raw:List UInt8) (fee:Nat) (h:fk (OC nm fee)=(raw,0)) (hs:gT (OC nm fee)):aL Tryz.prog GU 40 [.str nm, .int .u64 0, .int .u64 fee] [] 0 (.sl raw.length (u8s raw)) [] 0:=by
 have c1:=AA (G:=GU) _ hs;rw [h] at c1;unfold OC nA at c1;dsimp only at c1;refine bU seat Tryz.func40 20 ?_;refine ad ?_;refine cG rfl (fun _ h=>h) rfl (c1) rfl [(5,1)] mm lm ?_;refine ad ?_;refine aw ?_;exact en [_]
theorem KD:aD Tryz.prog GU 39 [] (cfM cfK):=by
 refine bf seat Tryz.func39 2 ?_;refine ad ?_;refine aw ?_;rfl
theorem Ds (nm:List UInt8) (fee:Nat) (h:nm.length≤100) (hf:fee≤1000):gT (OC nm fee):=by
 refine⟨by show nm.length≤_;omega,by show(0:Nat) < 18446744073709551616;decide,by show(300:Nat) < 18446744073709551616;decide,by show fee < 18446744073709551616;omega,by show(0:Nat)≤5000;decide,by show(1:Nat)≤5000;decide,?_⟩;intro x hx;rw [a₃.1 hx];exact⟨by decide,by unfold bl;decide⟩
theorem Dt {s0 s1 s2 s3 s4:cL} {e:Ent} {raw1 raw2 raw3 key1 key3:List UInt8} {p4:Int} (h1:s4.ents= [e]) (h2:e.order=1) (h3:s4.cache= [key3])
  (c0:aL Tryz.prog GU 16 [cfM cfK, .sl 2 (Hi.map bd)] [] 0 (.tup [dq s0, .int .i64 0]) [] 0)
  (d1:aL Tryz.prog GU 40 [.str [97,110,110], .int .u64 0, .int .u64 3] [] 0 (.sl raw1.length (u8s raw1)) [] 0)
  (d2:aL Tryz.prog GU 40 [.str [98,111,98], .int .u64 0, .int .u64 2] [] 0 (.sl raw2.length (u8s raw2)) [] 0)
  (d3:aL Tryz.prog GU 40 [.str [98,111,98], .int .u64 0, .int .u64 30] [] 0 (.sl raw3.length (u8s raw3)) [] 0)
  (c1:aL Tryz.prog GU 21 [dq s0, .sl raw1.length (u8s raw1), .int .i64 2] [] 0 (.tup [dq s1,pG (Hq 0 key1 10 [])]) [] 0)
  (c2:aL Tryz.prog GU 21 [dq s1, .sl raw1.length (u8s raw1), .int .i64 3] [] 0 (.tup [dq s2,pG (Hq 23 (a₀ 32 0) 0 [])]) [] 0)
  (c3:aL Tryz.prog GU 21 [dq s2, .sl raw2.length (u8s raw2), .int .i64 0] [] 0 (.tup [dq s3,pG (Hq 24 (a₀ 32 0) 0 [])]) [] 0)
  (c4:aL Tryz.prog GU 21 [dq s3, .sl raw3.length (u8s raw3), .int .i64 0] [] 0 (.tup [dq s4,pG (Hq 0 key3 p4 [key1])]) [] 0) :
  aD Tryz.prog GU 12 [] (.bool true):=by
 have c5:=hX (G:=GU) [key1] sm
 have c6:=hX (G:=GU) [key3] sm
 obtain⟨f1,f2,f3,f4,f5,f6,f7⟩:=s4
 dsimp only at h1 h3
 subst h1
 subst h3
 obtain⟨e1,e2,e3,e4,e5,e6,e7,e8,e9,e10⟩:=e
 dsimp only at h2
 subst h2
 generalize a₀ 32 0=z at *
 have ck:=KD
 generalize cfK=c at *
 unfold pG at *
 dsimp only [List.map,List.length] at *
 refine bf seat Tryz.func12 96 ?_
 refine ad ?_
 refine bL (ck) ?_
 refine cG rfl (fun _ h=>h) rfl (c0) rfl [(3,2)] mm lm ?_
 refine ad ?_
 refine av [ag 0,da 1,da 2,ag 3,ag 4,ag 5,ag 6,ag 7,ag 8] ?_
 refine ad ?_
 refine jk (d1) ?_
 refine jk (c1) ?_
 refine av [ag 0,da 1,da 2,ag 3,ag 4,ag 5,ag 6,ag 7,ag 8] ?_
 refine ad ?_
 refine jk (d1) ?_
 refine jk (c2) ?_
 refine av [ag 0,da 1,da 2,ag 3,ag 4,ag 5,ag 6,ag 7,ag 8] ?_
 refine ad ?_
 refine jk (d2) ?_
 refine jk (c3) ?_
 refine av [ag 0,da 1,da 2,ag 3,ag 4,ag 5,ag 6,ag 7,ag 8] ?_
 refine ad ?_
 refine jk (d3) ?_
 refine jk (c4) ?_
 refine cG rfl (fun _ h=>h) rfl (aa (c5)) rfl [(78,1)] mm lm ?_
 refine ad ?_
 refine cG rfl (fun _ h=>h) rfl (aa (c6)) rfl [(99,1)] mm lm ?_
 refine ad ?_
 refine aw ?_
 rfl
theorem KE:PN=⟨cfK,(fM Hi 0).1,0,0,0,[],[]⟩:=by kernel_rfl
theorem E0: ∀a∈Hi,eX a:=by
 intro a ha;rcases c₂.1 ha with rfl | ha
 ·exact⟨by decide,by unfold bl;decide,by unfold bl;decide⟩
 ·rw [a₃.1 ha];exact⟨by decide,by unfold bl;decide,by unfold bl;decide⟩
theorem cfK_ok:qC cfK:=⟨by decide,by decide,by decide,by decide,by decide,by decide,by decide,by decide,by unfold bl;decide,by decide,by decide⟩
theorem E3 {s:cL} {C:cL×Gj} {raw key:List UInt8} {peer:Int} {rq:Gj} {B:Nat} (hr:raw.length≤1000) (hs:kv pT B s) (hB:B≤1000) (hi:cZ s) (hk:aT raw=key) (hC:C=qY key s raw peer) (hc:C.2=rq):aL Tryz.prog GU 21 [dq s, .sl raw.length (u8s raw), .int .i64 peer] [] 0 (.tup [dq C.1,pG rq]) [] 0∧kv pT (B + 1) C.1∧cZ C.1:=by
 have h1:=pR (FX:=pT) s raw peer om hs om hi;have h2:=ow (FX:=pT) raw peer hs om;have h3:=jG (raw:=raw) (peer:=peer) hs.cfg hi;rw [Hj s peer hk,← hC] at h1 h2 h3;rw [hc] at h1;exact⟨h1,h2,h3⟩
theorem known_m:aD Tryz.prog GU 12 [] (.bool true):=by
 have ho:kv pT 20 PN:=by
  rw [KE];exact⟨cfK_ok,AH E0 (by unfold bl;decide),by decide,by decide,by decide,a₁ _,nofun,a₁ _,nofun,trivial⟩
 have hi:cZ PN:=by
  rw [KE];exact⟨by decide, .nil,by decide,by decide, .nil,nofun, .nil,nofun⟩
 have c0:=BC cfK Hi (Kq cfK_ok) (by decide) (fun a h=>(E0 a h).wd) (by unfold bl;decide);rw [OD] at c0;obtain⟨c1,ho,hi⟩:=E3 (raw:=raw1) (peer:=2) (C:=Qm) (by decide) ho om hi PF rfl q1;obtain⟨c2,ho,hi⟩:=E3 (raw:=raw1) (peer:=3) (C:=Qn) (by decide) ho om hi PF rfl q2;obtain⟨c3,ho,hi⟩:=E3 (raw:=raw2) (peer:=0) (C:=Qo) (by decide) ho om hi Qg rfl q3;obtain⟨c4,ho,hi⟩:=E3 (raw:=raw3) (peer:=0) (C:=PO) (by decide) ho om hi Qh rfl q4;exact Dt q5 rfl q6 c0 (KC _ _ 3 Qi (Ds _ _ (by decide) (by decide))) (KC _ _ 2 Qj (Ds _ _ (by decide) (by decide))) (KC _ _ 30 Qk (Ds _ _ (by decide) (by decide))) c1 c2 c3 c4
end
section
open Go.RowKit Go.ChangeShapes Go.Deep
theorem KF:reachBytes≤140737488355328:=by decide
theorem vv {H:Type} {P:Program} {e:TypeId} {l:List (DataW H)} (h:(DataW.weightsAll P e l).all (· ≤reachBytes)=true) {d:DataW H} (hd:d∈l):(d.weights P e).all (· ≤reachBytes)=true:=by
 induction l with
 | nil=>cases hd
 | cons x l ih=>
  simp only [DataW.weightsAll,d₆,d₅] at h;rcases c₂.1 hd with rfl | hd
  ·exact h.1
  ·exact ih h.2 hd
end
section
open Go.RowKit Go.ChangeShapes Go.Deep
def Du (W:World):bE:=fun b _=>b < W.heap.size
mutual
def MV.bulk:MV→Nat
 | .str s=>s.length + 1
 | .sl _ l=>MV.bulks l + 1
 | .st l=>MV.bulks l + 1
 | _=>1
def MV.bulks:List MV→Nat
 | [] =>0
 | m :: l=>MV.bulk m + MV.bulks l
end
theorem BH {H:Type} (d:DataW H):1≤Rows.uptoBulk d:=by
 cases d with
 | lit l=>cases l <;> simp [Rows.uptoBulk]
 | nil=>simp [Rows.uptoBulk]
 | ptr d=>simp [Rows.uptoBulk]
 | slice elems spare=>simp [Rows.uptoBulk]
 | agg parts=>simp [Rows.uptoBulk]
 | iface t d=>simp [Rows.uptoBulk]
 | map entries=>simp [Rows.uptoBulk]
 | held h=>simp [Rows.uptoBulk]
theorem xg {H:Type} (f:Nat→MV) (D:Nat→DataW H): ∀(l:List Nat),(∀i∈l,(f i).bulk≤Rows.uptoBulk (D i))→MV.bulks (l.map f)≤Rows.uptoBulkAll (l.map D)
 | [],_=>b₅ _
 | i :: l,h=>by
  have h1:=h i sm
  have h2:=xg f D l fun j hj=>h j (by simp [hj])
  simp only [c₈,MV.bulks,Rows.uptoBulkAll]
  omega
def Opn (P:Program) (t:TypeId) (n:Nat) (Q:MV→Prop):Prop:=
 P.cellsOf t=n∧∀{H:Type} (enc:TypeId×Value→H) (W:World) (spare:Nat→Bool) (held:Bool) (fuel:Nat) (cs:List Value) (d:DataW H) (p:List MemPlace),
  DataW.trod enc P W 0 spare held fuel t cs=some (d,p)→(d.weights P t).all (· ≤reachBytes)=true→cs.length=n∧∃m,Q m∧bI W (Du W) noAdr m cs∧m.bulk≤Rows.uptoBulk d
section
variable {P:Program} {t e:TypeId}
theorem Opn.int {k:IntKind} (hu:P.underlying t=some (.int k)) (hc:P.cellsOf t=1):Opn P t 1 fun m=> ∃n,m= .int k n∧(Lit.int k n).wf=true:=
 ⟨hc,fun enc W spare held fuel cs d p h _=>by
  obtain⟨n,rfl,_,hw⟩:=DataW.trod_int hu h;exact⟨rfl,_,⟨n,rfl,hw⟩, .int,BH d⟩⟩
theorem Opn.slice {n:Nat} {Q:MV→Prop} (hu:P.underlying t=some (.slice e)) (hc:P.cellsOf t=1) (hb:0 < P.bytesOf e) (hpos:0 < n) (hr:Opn P e n Q):Opn P t 1 fun m=> ∃l,m= .sl l.length l∧(∀x∈l,Q x)∧l.length≤140737488355328:=by
 refine⟨hc,fun {H} enc W spare held fuel cs d p h hw=>?_⟩;rcases open_slice hu h with ⟨rfl,_⟩ | ⟨a,len,cap,m,nn,D,Pl,rfl,_,hle,_,hm,hx,hi⟩
 ·exact⟨rfl,_,⟨[],rfl,sm,sm⟩, .sl none 0 0 [] rfl rfl (fun p hp=>nomatch hp) (fun _=>⟨rfl,rfl⟩) (b₅ _) (fun h=>absurd rfl h) (fun j m p h=>by simp at h),BH _⟩
 ·simp only [b₁] at hx;obtain⟨rfl,rfl⟩:=hx;simp only [DataW.weights,hu,List.all_cons,d₆,d₅,b₂,d₄] at hw;have hmle:len≤m:=by rw [hm];split <;> omega
  have hlen:len≤140737488355328:=by
   have h1:=ot hw.1;have h3:=KF;have h2:len * 1≤(len + (m - len)) * P.bytesOf e:=Nat.mul_le_mul om hb;omega
  have key: ∀i,i < len→∃x:MV×List Value,Q x.1∧bI W (Du W) noAdr x.1 x.2∧x.2.length=n∧(∀j v,x.2[j]? =some v→W.cell? (a.add (i * n + j))=some v)∧x.1.bulk≤Rows.uptoBulk (D i):=by
   intro i hil;obtain⟨cs',hc',ht⟩:=hi i om;rw [hr.1] at hc';obtain⟨_,hl,hat⟩:=World.cells?_some hc';have hmem:D i∈List.map D (a₇ len):=a₈.2 ⟨i,b₄.2 hil,rfl⟩;obtain⟨hl2,x,hx1,hx2,hx3⟩:=hr.2 enc W spare held nn cs' (D i) (Pl i) ht (vv hw.2.1 hmem);refine⟨(x,cs'),hx1,hx2,hl2,fun j v hv=>?_,hx3⟩;have hj:j < cs'.length:=(c₄.1 hv).1;have:=hat j om;rw [Go.Deep.add_add] at this;rw [this,hv]
  have ex: ∃f:Nat→MV×List Value,∀i,i < len→Q (f i).1∧bI W (Du W) noAdr (f i).1 (f i).2∧(f i).2.length=n∧(∀j v,(f i).2[j]? =some v→W.cell? (a.add (i * n + j))=some v)∧(f i).1.bulk≤Rows.uptoBulk (D i):=
   ⟨fun i=>Classical.epsilon fun x=>Q x.1∧bI W (Du W) noAdr x.1 x.2∧x.2.length=n∧(∀j v,x.2[j]? =some v→W.cell? (a.add (i * n + j))=some v)∧x.1.bulk≤Rows.uptoBulk (D i),fun i hil=>Classical.epsilon_spec (key i hil)⟩
  obtain⟨f,hf⟩:=ex;refine⟨rfl, .sl len ((a₇ len).map fun i=>(f i).1),⟨(a₇ len).map fun i=>(f i).1,sm,fun x hx=>?_,by simpa using hlen⟩,?_,?_⟩
  ·obtain⟨i,hi,rfl⟩:=a₈.1 hx;exact(hf i (b₄.1 hi)).1
  case refine_3=>
   have hb:=xg (fun i=>(f i).1) D (a₇ len) fun i hi=>(hf i (b₄.1 hi)).2.2.2.2
   simp only [MV.bulk,Rows.uptoBulk];omega
  ·obtain⟨b,o,spot⟩:=a;have hparts: ∀p∈(a₇ len).map fun i=>(f i).2,p.length=n:=fun p hp=>by
    obtain⟨i,hi,rfl⟩:=a₈.1 hp;exact(hf i (b₄.1 hi)).2.2.1
   refine .sl _ cap n ((a₇ len).map fun i=>(f i).2) sm sm hparts (fun h=>nomatch h) hle (fun h0=>?_) fun j m p hm hp=>?_
   ·have hspot:spot=none:=by
     obtain⟨_,_,hl,hc',_⟩:=hf 0 om;have hv:(f 0).2[0]? =some ((f 0).2[0]'om):=a₉ om;have hcell:=hc' 0 _ hv;have e0:(⟨b,o,spot⟩:Addr).add (0 * n + 0)=⟨b,o,spot⟩:=by simp [Addr.add]
     rw [e0] at hcell;simpa using World.cell?_spot hcell
    subst hspot;refine⟨b,o,rfl,fun j u hj=>?_⟩;have hjl:=(c₄.1 hj).1;rw [aN hparts] at hjl;simp at hjl;obtain⟨i,k,hk,hji⟩: ∃i k,k < n∧j=i * n + k:=⟨j / n,j % n,Nat.mod_lt _ hpos,by rw [Nat.mul_comm];exact(Nat.div_add_mod j n).symm⟩
    have hil:i < len:=by
     rcases Nat.lt_or_ge i len with h | h
     ·exact h
     ·have:=b₇ n h;omega
    have hget:(f i).2[k]? =some u:=by
     have hl:=(hf i hil).2.2.1;have hp:((a₇ len).map fun i=>(f i).2)[i]? =some (f i).2:=by simp [hil]
     have h2:((a₇ len).map fun i=>(f i).2).flatten[i * n + k]? =(f i).2[k]? :=by
      have hsp:=bO hp;have hpre:(((a₇ len).map fun i=>(f i).2).take i).flatten.length=i * n:=by
       rw [aN fun p hp=>hparts p (List.mem_of_mem_take hp)];rw [List.length_take,b₂,d₄,Nat.min_eq_left (Nat.le_of_lt hil)]
      rw [hsp,List.append_assoc,c₁ om,hpre,show i * n + k - i * n=k by omega,c₃ om]
     rw [← h2,← hji];exact hj
    have:=(hf i hil).2.2.2.1 k u hget;rw [Addr.add_mid] at this;have hc2:W.cell? ⟨b,o + j,none⟩=some u:=by rw [hji];exact this
    exact⟨hc2,World.block_lt_of_cell? W _ hc2⟩
   ·rw [d₂] at hm hp;cases hj:(a₇ len)[j]? with
    | none=>rw [hj] at hm;cases hm
    | some i=>
     rw [hj] at hm hp;injection hm with hm
     injection hp with hp
     subst hm;subst hp;have hi:i < len:=by
      have:=b₄.1 (c₇ hj);exact this
     exact(hf i hi).2.1
theorem xh {α:Type} {f:α→MV} {R:α→Prop}: ∀(l:List MV),(∀x∈l,∃a,x=f a∧R a)→∃us:List α,l=us.map f∧∀a∈us,R a
 | [],_=>⟨[],rfl,sm⟩
 | x :: l,h=>by
  obtain⟨a,e,hr⟩:=h x sm
  obtain⟨us,e2,has⟩:=xh l fun y hy=>h y (by simp [hy])
  refine⟨a :: us,by rw [e,e2];rfl,fun b hb=>?_⟩
  rcases c₂.1 hb with rfl | hb
  ·exact hr
  ·exact has b hb
end
end
section
open Go.ChangeShapes Go.WideShapes Go.ChangeAt Go.RowKit
theorem Qp:ownKnob Tryz.prog.godebug=none:=by kernel_rfl
theorem yV:laidOutB Tryz.prog=true:=by kernel_rfl
noncomputable abbrev xi:List (String×DataW Unit):=Rows.admitPlaysRow.laid
theorem KG:Rows.laid_unicode_utf8_first=Lib.firstData:=by kernel_rfl
theorem Hk:(Rows.laid_unicode_utf8_acceptRanges:DataW Unit)=Lib.acceptData:=by kernel_rfl
theorem vw {W:World} (hL:laidMet Tryz.prog xi W) (_hs:W.ShapedOpen Tryz.prog):GU.ok W:=
 utf8Tabs_of_readsT (ρ:=Tryz.lays197_ren) ⟨Tryz.underlying5,Tryz.underlying298,Tryz.underlying300,Tryz.underlying301⟩ ⟨by kernel_rfl,by kernel_rfl,by kernel_rfl,by kernel_rfl,by kernel_rfl,by kernel_rfl,by kernel_rfl⟩
  (by rw [← KG];exact Lib.laidMet.reads hL (List.Mem.tail _ (List.Mem.head _)))
  (by rw [← Hk];exact Lib.laidMet.reads hL (List.Mem.head _))
noncomputable abbrev rS (os:Os):World:=World.laidAll Tryz.prog os xi
theorem mR {C:Checked} {os:Os} {f:FuncId} {fn:Func} {H:Type} {enc:TypeId×Value→H} {s:OpenSpec} {conds:List PathCond} {apart:Bool} {laid:List (String×DataW Unit)} (w0:World) (hos:w0.os=os) (args:Array Value)
  (hsh:(w0.forCall (fun _ _=>0) ⟨#[],args,[]⟩).Shaped C.prog)
  (hok:Input.okWideB C.prog (w0.forCall (fun _ _=>0) ⟨#[],args,[]⟩) f ⟨#[],args,[]⟩=true)
  (hrow:s.preRow enc C.prog fn conds apart laid (w0.forCall (fun _ _=>0) ⟨#[],args,[]⟩).memory args) :
  ∃(w:World) (tape:Tape) (i:Input),w.os=os∧(w.forCall tape i).Shaped C.prog∧i.vars= [] ∧Input.okWide C.prog (w.forCall tape i) .any w.heap.size f i∧
   s.preRow enc C.prog fn conds apart laid (w.forCall tape i).memory i.args∧({}:Assume).holds C.prog (lone (Frame.enter C.prog f i.args .normal) [] (w.forCall tape i)):=
 ⟨w0,fun _ _=>0,⟨#[],args,[]⟩,hos,hsh,(Input.okWide_of_okWideB (base:=0) hok).1,(Input.okWide_of_okWideB hok).2,hrow,by
  simp only [Assume.holds]
  exact⟨sm,sm,sm,sm,sm⟩⟩
theorem yW (os:Os) (args:Array Value):((rS os).forCall (fun _ _=>0) ⟨#[],args,[]⟩).Shaped Tryz.prog:=World.shaped_of_ZipB (by kernel_rfl) (by kernel_rfl)
theorem vx (os:Os) (args:Array Value):laidMet Tryz.prog xi ((rS os).forCall (fun _ _=>0) ⟨#[],args,[]⟩).memory:=laidMet_laidAll args (by kernel_rfl) (by kernel_rfl)
theorem MG:Opn Tryz.prog 3 1 fun m=> ∃n,m= .int .i64 n∧(Lit.int .i64 n).wf=true:=Opn.int Tryz.underlying3 (by kernel_rfl)
theorem vy:Opn Tryz.prog 26 1 fun m=> ∃l,m= .sl l.length l∧(∀x∈l,∃n,x= .int .i64 n∧(Lit.int .i64 n).wf=true)∧l.length≤140737488355328:=Opn.slice Tryz.underlying26 (by kernel_rfl) (a₆ (by kernel_rfl)) om MG
theorem qZ {m:MV} (h: ∃l,m= .sl l.length l∧(∀x∈l,∃n,x= .int .i64 n∧(Lit.int .i64 n).wf=true)∧l.length≤140737488355328): ∃xs:List Int,m=bS xs∧xs.length≤140737488355328:=by
 obtain⟨l,rfl,h,hl⟩:=h;obtain⟨us,rfl,_⟩:=xh l h;exact⟨us,by unfold bS;rw [b₂],by simpa using hl⟩
end
end Go.Proofs.YthdhlcicpcnbhaaGreatDoor
