/- Parts of a proof, one behind the other: BW, Y1, Y2, J0, Y3, WQ, N4, Y4, Y5, Y6, Y7, Y8, J1, J2, J3, J4, J5, J6. -/
import Derived.Test.YthdhlcicpcnbhaaGreatDoorV09
open List renaming getElem?_eq_getElem → a₀,take_succ_eq_append_getElem → a₁,getElem_mem → a₂,getElem?_eq_some_iff → a₃,drop_eq_getElem_cons → a₄,length_append → a₇,append_assoc → a₈,take_append_drop → a₉,pairwise_cons → b₁,length_take → b₃,length_map → b₄,length_eq_zero_iff → b₅,length_drop → b₆,drop_length → b₇,mem_cons → b₈,append_nil → b₉,nil_append → c₀,take_of_length_le → c₁,take_length → c₃,mem_iff_getElem → c₄,getElem?_append_right → c₅,drop_of_length_le → c₆,length_filter_le → c₉,mem_map → d₀,take_append_of_le_length → d₁,drop_zero → d₂,getElem?_take_of_lt → d₃,mem_append → d₅,getElem?_zipWith → d₆,getElem?_eq_none → d₇,eq_nil_or_concat → d₉,concat_eq_append → e₀,mem_of_getElem? → e₁,mem_of_mem_take → e₂,pairwise_append → e₃,map_take → e₄,filter_eq_self → e₅,getElem?_drop → e₆,map_set → e₈,mem_cons_self → e₉,ext_getElem? → f₀,getElem?_set → f₁,take_sublist → f₂,length_cons → f₃,cons_append → f₄,map_append → f₅,replicate → f₈
open And renaming intro → a₅
open Nat renaming zero_add → a₆,le_refl → b₀,zero_le → b₂,lt_succ_self → c₇,eq_of_beq_eq_true → c₈,le_of_eq → d₄,beq → d₈,sub_self → e₇,min_eq_left → f₆
open Bool renaming and_eq_true → c₂
open Int renaming natCast_add → f₇
set_option maxRecDepth 20000
set_option maxHeartbeats 16000000
set_option linter.unusedVariables false
set_option linter.unusedSimpArgs false
namespace Go.Proofs.YthdhlcicpcnbhaaGreatDoor
open Go.RowKit
section
inductive RD (q:MV→Bool) (m:FM):MV→MV→Prop where
 | same {v} (h:q v=true):RD q m v v
 | nils:RD q m (.sl 0 []) .nils
 | ms {c off n es l'} (b:MB) (hb:m c=some b) (he:b.es=es) (h0:es≠0) (hn:off + n≤b.l.length) (hl:l'.length=n) (h: ∀(j:Nat) x y,l'[j]? =some x→b.l[off + j]? =some y→RD q m x y):RD q m (.sl n l') (.ms c es off n)
 | ptr {c es k fo path x} (b:MB) (y:MV) (hb:m c=some b) (he:b.es=es) (h0:es≠0) (hx:b.l[k]? =some y) (h:RD q m x y):RD q m (.ep x fo path) (.ptr c es k fo path)
 | st {l' l} (hl:l'.length=l.length) (h: ∀(j:Nat) x y,l'[j]? =some x→l[j]? =some y→RD q m x y):RD q m (.st l') (.st l)
 | fn {f l' l} (hl:l'.length=l.length) (h: ∀(j:Nat) x y,l'[j]? =some x→l[j]? =some y→RD q m x y):RD q m (.fn f l') (.fn f l)
inductive Bo (q:MV→Bool) (m:FM):List MV→List MV→Prop where
 | nil:Bo q m [] []
 | cons {x y l r} (h:RD q m x y) (t:Bo q m l r):Bo q m (x :: l) (y :: r)
inductive Pj (q:MV→Bool) (m:FM):MV→MV→Prop where
 | one {x y} (h:RD q m x y):Pj q m x y
 | tup {l r} (h:Bo q m l r):Pj q m (.tup l) (.tup r)
mutual
def MV.flat:MV→Bool
 | .int .. =>true
 | .bool .. =>true
 | .str .. =>true
 | .st l=>MV.flats l
 | .arr _ _ l=>MV.flats l
 | _=>false
def MV.flats:List MV→Bool
 | [] =>true
 | m :: l=>MV.flat m && MV.flats l
end
theorem qL: ∀{l:List MV} {j:Nat} {r:MV},MV.flats l=true→l[j]? =some r→r.flat=true
 | a :: l,0,r,h,hj=>by
  have h:(a.flat && MV.flats l)=true:=h
  rw [c₂] at h
  injection hj with hj;subst hj;exact h.1
 | a :: l,j + 1,r,h,hj=>by
  have h:(a.flat && MV.flats l)=true:=h
  rw [c₂] at h
  exact qL h.2 (by simpa using hj)
theorem Bo.same {q:MV→Bool} {m:FM}: ∀{l:List MV},l.all q=true→Bo q m l l
 | [],_=> .nil
 | x :: l,h=>by
  have h:(q x && l.all q)=true:=h
  rw [c₂] at h
  exact .cons (.same h.1) (Bo.same h.2)
theorem Bo.get {q:MV→Bool} {m:FM}: ∀{l r:List MV},Bo q m l r→l.length=r.length∧∀{j:Nat} {x:MV},l[j]? =some x→∃y,r[j]? =some y∧RD q m x y
 | _,_, .nil=>⟨rfl,fun h=>by simp at h⟩
 | _,_, .cons h t=>by
  obtain⟨h1,h2⟩:=t.get
  refine⟨by simpa using h1,fun {j x} hj=>?_⟩
  cases j with
  | zero=>injection hj with hj;subst hj;exact⟨_,rfl,h⟩
  | succ j=>exact h2 (by simpa using hj)
theorem RD.row {q:MV→Bool} {m:FM} {c n es:Nat} {l:List MV} (b:MB) (hb:m c=some b) (hl:b.l=l) (hn:l.length=n) (hf: ∀x∈l,q x=true) (h0:es≠0:=by decide) (he:b.es=es:=by rfl):RD q m (.sl n l) (.ms c es 0 n):=by
 subst hl;refine .ms b hb he h0 om hn fun j x y hx hy=>?_
 rw [a₆,hx] at hy;injection hy with hy
 subst hy;exact .same (hf x (e₁ hx))
section
variable {w w':World} {P P' P2:bE} {adr adr':er} {m:FM} {x v:MV} {cs:List Value} {q:MV→Bool}
theorem Jz {r:MV} (hr:bI w P adr r cs):r.flat=true→∀{adr':er},bI w' P' adr' r cs:=by
 induction hr with
 | int=>intro _ _;exact .int
 | bool=>intro _ _;exact .bool
 | str=>intro _ _;exact .str
 | st parts hp hr ih=>intro hf _;exact .st parts hp fun j m p h1 h2=>ih j m p h1 h2 (qL hf h1)
 | arr parts hl hp hes hr ih=>intro hf _;exact .arr parts hl hp hes fun j m p h1 h2=>ih j m p h1 h2 (qL hf h1)
 | _=>intro hf;cases hf
theorem RD.agg (h:RD q m x v):x.isAgg=v.isAgg:=by cases h <;> rfl
def Pk (w:World):bE:=fun b _=>b < w.heap.size
theorem EL:bI w P adr (.sl 0 []) [.slice none 0 0] := .sl none 0 0 [] rfl rfl (fun p hp=>nomatch hp) (fun _=>⟨rfl,rfl⟩) (b₀ _) (fun h=>absurd rfl h) (fun j m p h=>by simp at h)
theorem RD.rep (hI:aU w P adr m) (hq: ∀{v:MV} {a:er} {cs:List Value},q v=true→bI w P a v cs→bI w P2 noAdr v cs) (hp2: ∀c g,adr c=some g→g < w.heap.size→∀o,P2 g o) (h:RD q m x v): ∀{a:er} {cs:List Value},(∀c g,a c=some g→adr c=some g)→bI w P a v cs→bI w P2 noAdr x cs:=by
 have cellA: ∀{c g:Nat} {cur:Array Value} {t:TypeId} {i:Nat} {u:Value},adr c=some g→w.heap[g]? =some (.cells cur t (0,0))→cur.toList[i]? =some u→w.cell? ⟨g,i,none⟩=some u∧P2 g i:=fun {c g cur t i u} ha hg hu=>by
  refine⟨?_,hp2 c g ha (Array.getElem?_eq_some_iff.1 hg).1 _⟩;rw [cell_of_row w g _ cur t (0,0) hg];simpa using hu
 have sub: ∀{b:MB} {c g:Nat},(if b.row then noAdr else adr) c=some g→adr c=some g:=fun {b c g} h=>by
  split at h
  ·cases h
  ·exact h
 induction h with
 | same hf=>intro a cs _ hr;exact hq hf hr
 | nils=>
  intro a cs _ hr;cases hr;exact EL
 | @ms c off n es l' b hb he h0 hn hl h ih=>
  intro a cs ha hr;cases hr with
  | ms0=>
   have:l'= [] :=b₅.1 hl;subst this;exact EL
  | ms g o cap hg ho hcap hcap2 hsz=>
   have hg:=ha _ _ hg;rcases hI.blk c b hb with ⟨_,_,h3,_⟩ | ⟨g',h1,h2⟩
   ·rw [hg] at h3;cases h3
   rw [hg] at h1;injection h1 with h1
   subst h1;obtain⟨cur,parts,c1,c2,c3,c4,c5⟩:=h2.ofE (by rw [he];exact h0);have hpes: ∀p∈parts,p.length=es:=fun p hp=>by rw [c3 p hp,he]
   have hall: ∀p∈(parts.drop off).take n,p.length=es:=fun p hp=>hpes p (List.mem_of_mem_drop (e₂ hp))
   have hlen2:((parts.drop off).take n).length=n:=by rw [b₃,b₆];omega
   refine .sl (some ⟨g,o,none⟩) cap es ((parts.drop off).take n) hl hlen2 hall (fun h=>nomatch h) hcap (fun hn0=>⟨g,o,rfl,fun j u hj=>?_⟩) fun j y p hy hp=>?_
   ·have ho:=ho (.inl hn0);subst ho;exact cellA hg c1 (cM c5 (cO hpes off n hj om))
   ·have hjl:=(a₃.1 hy).1;rw [d₃ om,e₆] at hp;obtain⟨z,hz⟩: ∃z,b.l[off + j]? =some z:=⟨b.l[off + j]'om,a₀ om⟩
    exact ih j y z hy hz (fun _ _ h=>sub h) (c4 _ z p hz hp)
 | @ptr c es k fo path x b y hb he h0 hx h ih=>
  intro a cs ha hr;cases hr with
  | ptr g hg=>
   have hg:=ha _ _ hg;rcases hI.blk c b hb with ⟨_,_,h3,_⟩ | ⟨g',h1,h2⟩
   ·rw [hg] at h3;cases h3
   rw [hg] at h1;injection h1 with h1
   subst h1;obtain⟨cur,parts,c1,c2,c3,c4,c5⟩:=h2.ofE (by rw [he];exact h0);have hpes: ∀p∈parts,p.length=es:=fun p hp=>by rw [c3 p hp,he]
   have hkl:=(a₃.1 hx).1;have hk2:k < parts.length:=om;refine .ep g (k * es) parts[k] (fun j u hj=>cellA hg c1 (cM c5 (cO hpes k 1 (x:=u) ?_ om))) (ih (fun _ _ h=>sub h) (c4 k y parts[k] hx (a₀ hk2)));rw [show (parts.drop k).take 1= [parts[k]] by rw [a₄ hk2];rfl];simpa using hj
 | @st l' l hl h ih=>
  intro a cs ha hr;cases hr with
  | st parts hp hr=>
   refine .st parts om fun j x p hx hp2=>?_
   have hj:=(a₃.1 hp2).1;have hz:l[j]? =some (l[j]'om):=a₀ om;exact ih j x _ hx hz ha (hr j _ p hz hp2)
 | @fn f l' l hl h ih=>
  intro a cs ha hr;cases hr with
  | fn parts hp hr=>
   have e:List.zipWith valM l parts=List.zipWith valM l' parts:=by
    apply f₀;intro j;rw [d₆,d₆];by_cases hj:j < l.length
    ·have h1:l[j]? =some (l[j]'hj):=a₀ hj;have h2:l'[j]? =some (l'[j]'om):=a₀ om;have h3:parts[j]? =some (parts[j]'om):=a₀ om;rw [h1,h2,h3]
     show some (valM _ _)=some (valM _ _)
     unfold valM;rw [(h j _ _ h2 h1).agg]
    ·have h1:l[j]? =none:=d₇ om;have h2:l'[j]? =none:=d₇ om;rw [h1,h2]
   rw [e];refine .fn parts om fun j x p hx hp2=>?_
   have hj:=(a₃.1 hp2).1;have hz:l[j]? =some (l[j]'om):=a₀ om;exact ih j x _ hx hz ha (hr j _ p hz hp2)
theorem RD.val (hq: ∀v:MV,q v=true→v.isVal=true) (h:RD q m x v):v.isVal=true:=by
 cases h with
 | same h=>exact hq _ h
 | _=>rfl
theorem RD.repV {u:Value} (hI:aU w P adr m) (hv: ∀v:MV,q v=true→v.isVal=true) (hq: ∀{v:MV} {a:er} {cs:List Value},q v=true→bI w P a v cs→bI w P2 noAdr v cs) (hp2: ∀c g,adr c=some g→g < w.heap.size→∀o,P2 g o) (h:RD q m x v) (hr:aJ w P adr v u):aJ w P2 noAdr x u:=by
 have hv:=h.val hv;cases hr with
 | val cs hr=>
  have e:valM v cs=valM x cs:=by unfold valM;rw [h.agg]
  rw [e];exact .val cs (h.rep hI hq hp2 (fun _ _ h=>h) hr)
 | undef=>cases hv
 | tup vs hl h2=>cases hv
theorem Bo.repVs (hI:aU w P adr m) (hv: ∀v:MV,q v=true→v.isVal=true) (hq: ∀{v:MV} {a:er} {cs:List Value},q v=true→bI w P a v cs→bI w P2 noAdr v cs) (hp2: ∀c g,adr c=some g→g < w.heap.size→∀o,P2 g o): ∀{l r:List MV} {us:List Value},Bo q m l r→cD w P adr r us→cD w P2 noAdr l us
 | _,_,_, .nil, .nil=> .nil
 | _,_,_, .cons h t, .cons h2 t2=> .cons (h.repV hI hv hq hp2 h2) (Bo.repVs hI hv hq hp2 t t2)
theorem Pj.repV {u:Value} (hI:aU w P adr m) (hv: ∀v:MV,q v=true→v.isVal=true) (hq: ∀{v:MV} {a:er} {cs:List Value},q v=true→bI w P a v cs→bI w P2 noAdr v cs) (hp2: ∀c g,adr c=some g→g < w.heap.size→∀o,P2 g o) (h:Pj q m x v) (hr:aJ w P adr v u):aJ w P2 noAdr x u:=by
 cases h with
 | one h=>exact h.repV hI hv hq hp2 hr
 | tup h=>
  obtain⟨h1,h2⟩:=h.get;cases hr with
  | val cs hr=>cases hr
  | tup vs hl h3=>
   refine .tup vs om fun j x u hx hu=>?_
   obtain⟨y,hy,hd⟩:=h2 hx;obtain⟨cs,h4,rfl⟩:=h3 j y u hy hu;exact⟨cs,hd.rep hI hq hp2 (fun _ _ h=>h) h4,by unfold valM;rw [hd.agg]⟩
theorem C8: ∀v:MV,v.idFree=true→v.isVal=true:=fun v h=>by cases v <;> first | rfl | cases h
theorem JE: ∀v:MV,v.flat=true→v.isVal=true:=fun v h=>by cases v <;> first | rfl | cases h
end
theorem iR {Pg:Program} {G:GS} {f:FuncId} {args' args:List MV} {res res1:MV} {M1:VM} {n1:Nat} (hc:aL Pg G f args' [] 0 res1 M1 n1) {M0:VM} {n0:Nat} (hd:Bo MV.idFree (VM.get M0) args' args) (hf:Pj MV.flat (VM.get M1) res res1):aL Pg G f args M0 n0 res M0 n0:=by
 intro w P adr vals hG hI hn hL hr;have ha:=hd.repVs (P2:=Pk w) hI C8 (fun {v a cs} hv hr=>(hr.free hv).keep ⟨fun b o h=>hI.prot b o h,fun _ _ _=>rfl,fun _ _ h=>h,fun _ _ _ _ h=>nomatch h⟩) (fun c g _ hg o=>hg) hr;refine Calls.mono (hc w (Pk w) noAdr vals hG ⟨fun c b h=>(nomatch h),fun c c' b b' g h=>(nomatch h),fun b o h=>h⟩ (fun _ _=>rfl) (fun c g h=>nomatch h) ha) ?_;rintro e w' ⟨v,h1,P1,a1,hI1,h2,_,_,_,hnew,_,h3⟩;have h3:bo (fun _=>False) w w':=⟨h3.os,h3.tape,h3.output,h3.size,fun b hb _=>h3.block b hb (fun⟨_,h⟩=>nomatch h)⟩;have hb:=h3.below;refine⟨v,h1,hY w w' P,adr,hI.below hb,?_,bj.below hI.prot hb,fun _ _=>rfl,hn,fun c g h=> .inr ⟨c,h⟩,fun b o h=>?_,⟨h3.os,h3.tape,h3.output,h3.size,fun b hb2 _=>h3.block b hb2 (fun e=>e)⟩⟩
 ·refine(hf.repV hI1 JE (fun hv hr=>Jz hr hv) (fun c g hg hlt o=> .inr ⟨?_,hlt⟩) h2).ofNone;rcases hnew c g hg with h | ⟨_,h⟩
  ·exact h
  ·cases h
 ·rcases h with h | h
  ·exact .inl h
  ·exact .inr (.inl h.1)
theorem Bp {Pg:Program} {G:GS} {f:FuncId} {args:List MV} {M0:VM} {n0 n1:Nat} {res:MV} {ty:TypeId} {es pe:Nat} {l:List MV} (k:Nat) (hc:aL Pg G f args M0 n0 res [(0,⟨ty,es,true,pe,l⟩)] n1) (hk:pe≤k):aL Pg G f args M0 n0 res [(0,⟨ty,es,true,pe,l.take k⟩)] n1:=by
 intro w P adr vals a1 a2 a3 a4 a5;refine Calls.mono (hc w P adr vals a1 a2 a3 a4 a5) ?_;rintro e w' ⟨v,h1,P',adr',hI,h2⟩;refine⟨v,h1,P',adr',⟨fun c b hb=>?_,fun c c' b b' g h1 h2=>?_,hI.prot⟩,h2⟩
 ·have hg:VM.get [(0,(⟨ty,es,true,pe,l.take k⟩:MB))] c=bif d₈ 0 c then some ⟨ty,es,true,pe,l.take k⟩ else none:=rfl;rw [hg] at hb;cases h0:d₈ 0 c with
  | false=>rw [h0] at hb;cases hb
  | true=>
   rw [h0] at hb;injection hb with hb
   subst hb;have:=c₈ h0;subst this;rcases hI.blk 0 _ rfl with ⟨_,q1,q2,q3⟩ | ⟨g,q1,q2⟩
   ·refine .inl ⟨rfl,?_,q2,q3⟩
    show l.take k= []
    rw [show l= [] from q1];simp
   ·refine .inr ⟨g,q1,⟨.inl ?_,q2.pe,?_⟩⟩
    ·obtain⟨cur,parts,c1,c2,c3,c4,c5⟩:=q2.ofR rfl;refine⟨cur,parts.take k,c1,?_,fun p hp=>c3 p (e₂ hp),fun j x p hx hp=>?_,?_⟩
     ·show(parts.take k).length=(l.take k).length
      rw [b₃,b₃,c2]
     ·have hx:(l.take k)[j]? =some x:=hx;rw [List.getElem?_take] at hx hp;split at hx
      ·rename_i hjk;rw [if_pos hjk] at hp;exact c4 j x p hx hp
      ·cases hx
     ·refine List.IsPrefix.trans ?_ c5;rw [show parts.flatten=(parts.take k).flatten ++ (parts.drop k).flatten by rw [← List.flatten_append,a₉]];exact List.prefix_append _ _
    ·show pe≤(l.take k).length
     have h5:pe≤l.length:=q2.le;rw [b₃];omega
 ·have one: ∀{c:Nat} {b:MB},VM.get [(0,(⟨ty,es,true,pe,l.take k⟩:MB))] c=some b→c=0:=fun {c b} h=>by
   have hg:VM.get [(0,(⟨ty,es,true,pe,l.take k⟩:MB))] c=bif d₈ 0 c then some ⟨ty,es,true,pe,l.take k⟩ else none:=rfl;rw [hg] at h;cases h0:d₈ 0 c with
   | false=>rw [h0] at h;cases h
   | true=>exact (c₈ h0).symm
  intro _ _;rw [one h1,one h2]
end
section
variable {G:GS}
attribute [local irreducible] aj aC aG aM aQ vC aY aA
theorem MY {c:List (List UInt8)} {k:Nat} {e:List UInt8} (h:c[k]? =some e):bK (c.map keyM) (0 + k)=some (keyM e):=by rw [bF,Nat.zero_add,List.getElem?_map,h];rfl
theorem JF (l:List (List UInt8)) (key:List UInt8) (hl:l.length≤1000000) (hk32:key.length=32) (hs:eF l):aD Tryz.prog G 139 [.sl l.length (l.map keyM),keyM key] (.int .i64 (posK key l 0)):=by
 generalize hr:posK key l 0=R;refine bf seat Tryz.func139 19 ?_;refine ad ?_;refine ar Nat (fun k=> [(8, .int .i64 k),(7, .int .i64 l.length),(6, .sl l.length (l.map keyM)),(3, .ptr 0 32 0 0 []),(0, .sl l.length (l.map keyM))]) (fun _=> [(0,⟨55,32,false,0,[keyM key]⟩)]) 1 (fun k=>k≤l.length∧posK key (l.drop k) k=R) (fun k=>l.length - k) 0 ⟨b₂ _,by rw [d₂];exact hr⟩ (vm [(0,_)] []) ?_;rintro k ⟨hk,hR⟩;try dsimp only
 refine ad ?_;refine ae rfl ?_ ?_ <;> intro h
 ·have hk':k < l.length:=by have:=ot h;omega
  have hel:=lz hk';have h32:=hs _ (a₂ hk');rw [a₄ hk',posK] at hR;generalize l[k] =a at *;have hel:=al.mk hel;have q1:=al.mk (qy (a:=key) (b:=a) (by rw [h32,hk32]));have s1:=bJ.mk (ig key a);refine ad ?_;refine av [ag 0,ag 1,ag 2,ag 3,ag 4,ag 5] ?_;by_cases he:a=key
  ·rw [if_pos he] at hR;rw [decide_eq_true he.symm] at q1;subst hR;refine ad ?_;refine aw ?_;rfl
  ·rw [if_neg he] at hR;rw [decide_eq_false (fun e=>he e.symm)] at q1;refine ad ?_;exact⟨k + 1,⟨by show k + 1≤l.length;omega,hR⟩,by show l.length - (k + 1) < l.length - k;omega,(by dsimp only;exact(vm [(0,_)] []))⟩
 ·have hk':k=l.length:=by have:=oF h;omega
  subst hk';rw [b₇,posK] at hR;subst hR;refine ad ?_;refine aw ?_;rfl
theorem JG (l:List Int) (v:Int) (hl:l.length≤1000000):aD Tryz.prog G 140 [bS l, .int .i64 v] (.int .i64 (jw (fun x=>decide (x=v)) l 0)):=by
 generalize hr:jw (fun x=>decide (x=v)) l 0=R;unfold bS;refine bf seat Tryz.func140 19 ?_;refine ad ?_;refine ar Nat (fun k=> [(8, .int .i64 k),(7, .int .i64 l.length),(6, .sl l.length (l.map (MV.int .i64))),(1, .int .i64 v),(0, .sl l.length (l.map (MV.int .i64)))]) (fun _=> []) 0 (fun k=>k≤l.length∧jw (fun x=>decide (x=v)) (l.drop k) k=R) (fun k=>l.length - k) 0 ⟨b₂ _,by rw [d₂];exact hr⟩ (vm [] []) ?_;rintro k ⟨hk,hR⟩;try dsimp only
 refine ad ?_;refine ae rfl ?_ ?_ <;> intro h
 ·have hk':k < l.length:=by have:=ot h;omega
  have hel:=al.mk (po hk');rw [a₄ hk',jw] at hR;generalize l[k] =a at *;refine ad ?_;refine ae rfl ?_ ?_ <;> intro h
  ·have he:v=a:=by simpa using h
   rw [if_pos (decide_eq_true he.symm)] at hR;subst hR;refine ad ?_;refine aw ?_;rfl
  ·have he: ¬ v=a:=by simpa using h
   rw [if_neg (by simpa using fun e=>he e.symm)] at hR;refine ad ?_;exact⟨k + 1,⟨by show k + 1≤l.length;omega,hR⟩,by show l.length - (k + 1) < l.length - k;omega,(by dsimp only;exact(vm [] []))⟩
 ·have hk':k=l.length:=by have:=oF h;omega
  subst hk';rw [b₇,jw] at hR;subst hR;refine ad ?_;refine aw ?_;rfl
theorem mI (k:List UInt8) (l:List (List UInt8)):decide (0≤posK k l 0)=decide (k∈l):=by
 refine decide_eq_decide.2 ?_;have:=gE k l 0;constructor
 ·intro h;exact Classical.byContradiction fun hn=>by have:=this.2 hn;omega
 ·intro h;exact Classical.byContradiction fun hn=>this.1 om h
theorem JH (v:Int) (l:List Int):decide (0≤jw (fun x=>decide (x=v)) l 0)=decide (v∈l):=by
 refine decide_eq_decide.2 ?_;rcases nt (fun x=>decide (x=v)) l 0 with ⟨h1,h2⟩ | ⟨j,hj,h1,_,h3⟩
 ·refine⟨fun h=>by omega,fun h=>?_⟩;have:=h2 v h;simp at this
 ·refine⟨fun _=>?_,fun _=>by omega⟩;rw [← ot h3];exact a₂ hj
theorem Bq (l:List (List UInt8)) (key:List UInt8) (hl:l.length≤1000000) (hk32:key.length=32) (hs:eF l):aD Tryz.prog G 97 [.sl l.length (l.map keyM),keyM key] (.bool (decide (key∈l))):=by
 have c1:=JF (G:=G) l key hl hk32 hs;rw [← mI];generalize posK key l 0=R at *;refine bf seat Tryz.func97 9 ?_;refine ad ?_;refine bL (c1) ?_;refine aw ?_;rfl
theorem yK (l:List (List UInt8)) (key:List UInt8) (hl:l.length≤1000000) (hk32:key.length=32) (hs:eF l):aD Tryz.prog G 52 [.sl l.length (l.map keyM),keyM key] (.bool (decide (key∈l))):=by
 have c1:=Bq (G:=G) l key hl hk32 hs;generalize decide (key∈l)=R at *;refine bf seat Tryz.func52 8 ?_;refine ad ?_;refine bL (c1) ?_;refine aw ?_;rfl
theorem rO (l:List Int) (v:Int) (hl:l.length≤1000000):aD Tryz.prog G 99 [bS l, .int .i64 v] (.bool (decide (v∈l))):=by
 have c1:=JG (G:=G) l v hl;rw [← JH];generalize jw (fun x=>decide (x=v)) l 0=R at *;unfold bS at *;refine bf seat Tryz.func99 9 ?_;refine ad ?_;refine bL (c1) ?_;refine aw ?_;rfl
theorem GR (l:List (List UInt8)) (hl:l.length≤1000000) (g:FuncId) (v:MV) (p:List UInt8→Bool) (hg:ents.contains g=true) (hp: ∀x∈l,aD Tryz.prog G g [keyM x, .ep v 0 []] (.bool (p x))):aD Tryz.prog G 116 [.sl l.length (l.map keyM), .fn g [.ep v 0 []]] (.int .i64 (jw p l 0)):=by
 generalize hr:jw p l 0=R;refine bf seat Tryz.func116 19 ?_;refine ad ?_;refine ar Nat (fun k=> [(8, .int .i64 k),(7, .int .i64 l.length),(6, .sl l.length (l.map keyM)),(1, .fn g [.ep v 0 []]),(0, .sl l.length (l.map keyM))]) (fun _=> []) 0 (fun k=>k≤l.length∧jw p (l.drop k) k=R) (fun k=>l.length - k) 0 ⟨b₂ _,by rw [d₂];exact hr⟩ (vm [] []) ?_;rintro k ⟨hk,hR⟩;try dsimp only
 refine ad ?_;refine ae rfl ?_ ?_ <;> intro h
 ·have hk':k < l.length:=by have:=ot h;omega
  have hel:=lz hk';have c1:=hp _ (a₂ hk');rw [a₄ hk',jw] at hR;generalize p l[k] =b at *;generalize l[k] =a at *;have hel:=al.mk hel;refine ad ?_;refine yv (c1) ?_ (h2:=hg);refine ad ?_;cases b with
  | true=>
   rw [if_pos rfl] at hR;subst hR;refine ad ?_;refine aw ?_;rfl
  | false=>
   rw [if_neg (by decide)] at hR;refine ad ?_;exact⟨k + 1,⟨by show k + 1≤l.length;omega,hR⟩,by show l.length - (k + 1) < l.length - k;omega,(by dsimp only;exact(vm [] []))⟩
 ·have hk':k=l.length:=by have:=oF h;omega
  subst hk';rw [b₇,jw] at hR;subst hR;refine ad ?_;refine aw ?_;rfl
theorem wY (l:List (Ent)) (hl:l.length≤1000000) (g:FuncId) (v:MV) (p:Ent→Bool) (hg:ents.contains g=true) (hp: ∀x∈l,aD Tryz.prog G g [au x, .ep v 0 []] (.bool (p x))):aD Tryz.prog G 75 [.sl l.length (l.map au), .fn g [.ep v 0 []]] (.int .i64 (jw p l 0)):=by
 generalize hr:jw p l 0=R;refine bf seat Tryz.func75 19 ?_;refine ad ?_;refine ar Nat (fun k=> [(8, .int .i64 k),(7, .int .i64 l.length),(6, .sl l.length (l.map au)),(1, .fn g [.ep v 0 []]),(0, .sl l.length (l.map au))]) (fun _=> []) 0 (fun k=>k≤l.length∧jw p (l.drop k) k=R) (fun k=>l.length - k) 0 ⟨b₂ _,by rw [d₂];exact hr⟩ (vm [] []) ?_;rintro k ⟨hk,hR⟩;try dsimp only
 refine ad ?_;refine ae rfl ?_ ?_ <;> intro h
 ·have hk':k < l.length:=by have:=ot h;omega
  have hel:=dS hk';have c1:=hp _ (a₂ hk');rw [a₄ hk',jw] at hR;generalize p l[k] =b at *;generalize l[k] =a at *;have hel:=al.mk hel;refine ad ?_;refine yv (c1) ?_ (h2:=hg);refine ad ?_;cases b with
  | true=>
   rw [if_pos rfl] at hR;subst hR;refine ad ?_;refine aw ?_;rfl
  | false=>
   rw [if_neg (by decide)] at hR;refine ad ?_;exact⟨k + 1,⟨by show k + 1≤l.length;omega,hR⟩,by show l.length - (k + 1) < l.length - k;omega,(by dsimp only;exact(vm [] []))⟩
 ·have hk':k=l.length:=by have:=oF h;omega
  subst hk';rw [b₇,jw] at hR;subst hR;refine ad ?_;refine aw ?_;rfl
end
section
variable {G:GS}
attribute [local irreducible] aj aC aG aM aQ vC aY aA
abbrev JI:MV:= .st [.arr 32 1 (u8s (f₈ 32 0)), .nils, .str [], .int .u64 0, .int .u64 0, .int .u64 0, .int .i64 0, .int .i64 0, .int .i64 0, .nils]
abbrev JJ:MV:= .arr 32 1 (u8s (f₈ 32 0))
theorem Oa (l:List (List UInt8)) (hl:l.length≤1000000) (g:FuncId) (v:MV) (p:List UInt8→Bool) (hg:ents.contains g=true) (hp: ∀x∈l,aD Tryz.prog G g [keyM x, .ep v 0 []] (.bool (p x))):aL Tryz.prog G 72 [.ms 0 32 0 l.length, .fn g [.ep v 0 []]] [(0,⟨55,32,true,0,l.map keyM⟩)] 1 (.ms 0 32 0 (l.filter fun x=> !p x).length) [(0,⟨55,32,true,0,(l.filter fun x=> !p x).map keyM⟩)] 1:=by
 have main:aL Tryz.prog G 72 [.ms 0 32 0 l.length, .fn g [.ep v 0 []]] [(0,⟨55,32,true,0,l.map keyM⟩)] 1 (.ms 0 32 0 (l.filter fun x=> !p x).length) [(0,⟨55,32,true,0,(l.filter fun x=> !p x).map keyM ++ repM (l.length - (l.filter fun x=> !p x).length) JJ⟩)] 1:=by
  have ci:=aa (GR (G:=G) l hl g v p hg hp);have cb:=iR ci (M0:= [(0,⟨55,32,true,0,l.map keyM⟩)]) (n0:=1) (args:= [.ms 0 32 0 l.length, .fn g [.ep v 0 []]]) (.cons (RD.row (c:=0) (es:=32) ⟨55,32,true,0,l.map keyM⟩ rfl rfl sm (fun x hx=>by obtain⟨y,_,rfl⟩:=d₀.1 hx;rfl)) (.cons (.same rfl) .nil)) (.one (.same rfl));clear ci;generalize hF:(l.filter fun x=> !p x)=F at *;rcases nt p l 0 with ⟨h1,h2⟩ | ⟨j0,hj0,h1,h2,h3⟩
  ·have hFl:F=l:=by rw [← hF];exact e₅.2 fun x hx=>by rw [h2 x hx];rfl
   rw [h1] at cb;rw [hFl,e₇,repM,b₉];refine bU seat Tryz.func72 42 ?_;refine ad ?_;refine yc (cb) [(0,0)] ?_;refine ad ?_;exact en [_]
  ·rw [h1,a₆] at cb;have hst:=nE.start hj0 h2 h3;refine bU seat Tryz.func72 42 ?_;refine ad ?_;refine yc (cb) [(0,0)] ?_;refine ad ?_;refine ar (Nat×Nat×List (List UInt8)) (fun x=> [(6, .int .i64 x.2.1),(5, .int .i64 x.1),(1, .fn g [.ep v 0 []]),(0, .ms 0 32 0 l.length)]) (fun x=> [(0,⟨55,32,true,0,x.2.2.map keyM⟩)]) 1 (fun x=>nE p l x.1 x.2.1 x.2.2) (fun x=>l.length - x.2.1) (j0,j0 + 1,l) hst (vm [] []) ?_;clear hst cb;rintro⟨i,j,c⟩ hI;try dsimp only
   dsimp only at hI;have hij:=hI.ij;have hjl:=hI.jl;have hcl:=hI.hl;refine ad ?_;refine ae rfl ?_ ?_ <;> intro h
   ·have hj:j < l.length:=by have:=ot h;omega
    have hel:=al.mk (MY (hI.at_ hj));have hpx:=hp _ (a₂ hj);have hsk:=hI.skip hj;have hke:=hI.keep hj;generalize hb:p l[j] =b at *;generalize l[j] =x at *;refine ad ?_;refine yv (hpx) ?_ (h2:=hg);refine ad ?_;cases b with
    | true=>
     refine ad ?_;exact⟨(i,j + 1,c),hsk rfl,dm,(by dsimp only;exact(vm [] []))⟩
    | false=>
     have hci:al (bK (c.map keyM) (0 + i)) (keyM c[i]):=al.mk (MY (a₀ om));have hse:aX (setL (c.map keyM) (0 + i) (keyM x)) ((c.set i x).map keyM):=aX.mk (by rw [setL_eq,a₆,e₈]);generalize c[i] =y at *;refine ad ?_;exact⟨(i + 1,j + 1,c.set i x),hke rfl,dm,(by dsimp only;exact(vm [] []))⟩
   ·have hj:j=l.length:=by have:=oF h;omega
    subst hj;obtain⟨f1,f2⟩:=hI.fin;rw [hF] at f1 f2;have hil:i≤l.length:=om;have hlo:=al.mk (CL (κ:= .i64) hil);have hhi:=al.mk (II (κ:= .i64) hil);have hsd:bJ (0 + i + (l.length - i)≤(c.map keyM).length∧0≤0 + i):=bJ.mk ⟨by rw [b₄];omega,b₂ _⟩;have hres:(c.map keyM).take (0 + i) ++ (repM (l.length - i) JJ ++ (c.map keyM).drop (0 + i + (l.length - i)))=F.map keyM ++ repM (l.length - F.length) JJ:=by
     rw [a₆,← e₄,f1,c₆ (by rw [b₄];omega),b₉,← f2]
    rw [← f2] at hres ⊢;clear f1 f2 hF;refine ad ?_;refine⟨[_],[],[],rfl,rfl,trivial,rfl,⟨?_,trivial⟩,?_⟩
    ·exact rv
    ·exact⟨.inr ⟨0,_,rfl,rfl,rfl,rfl, .inl rfl, .inl rfl, .inl ⟨hres.symm,rfl⟩⟩,trivial⟩
 have:=Bp (l.filter fun x=> !p x).length main (b₂ _);rw [d₁ sm,c₁ sm] at this;exact this
theorem Ob (l:List (Ent)) (hl:l.length≤1000000) (g:FuncId) (v:MV) (p:Ent→Bool) (hg:ents.contains g=true) (hp: ∀x∈l,aD Tryz.prog G g [au x, .ep v 0 []] (.bool (p x))):aL Tryz.prog G 103 [.ms 0 41 0 l.length, .fn g [.ep v 0 []]] [(0,⟨64,41,true,0,l.map au⟩)] 1 (.ms 0 41 0 (l.filter fun x=> !p x).length) [(0,⟨64,41,true,0,(l.filter fun x=> !p x).map au⟩)] 1:=by
 have main:aL Tryz.prog G 103 [.ms 0 41 0 l.length, .fn g [.ep v 0 []]] [(0,⟨64,41,true,0,l.map au⟩)] 1 (.ms 0 41 0 (l.filter fun x=> !p x).length) [(0,⟨64,41,true,0,(l.filter fun x=> !p x).map au ++ repM (l.length - (l.filter fun x=> !p x).length) JI⟩)] 1:=by
  have ci:=aa (wY (G:=G) l hl g v p hg hp);have cb:=iR ci (M0:= [(0,⟨64,41,true,0,l.map au⟩)]) (n0:=1) (args:= [.ms 0 41 0 l.length, .fn g [.ep v 0 []]]) (.cons (RD.row (c:=0) (es:=41) ⟨64,41,true,0,l.map au⟩ rfl rfl sm (fun x hx=>by obtain⟨y,_,rfl⟩:=d₀.1 hx;rfl)) (.cons (.same rfl) .nil)) (.one (.same rfl));clear ci;generalize hF:(l.filter fun x=> !p x)=F at *;rcases nt p l 0 with ⟨h1,h2⟩ | ⟨j0,hj0,h1,h2,h3⟩
  ·have hFl:F=l:=by rw [← hF];exact e₅.2 fun x hx=>by rw [h2 x hx];rfl
   rw [h1] at cb;rw [hFl,e₇,repM,b₉];refine bU seat Tryz.func103 42 ?_;refine ad ?_;refine yc (cb) [(0,0)] ?_;refine ad ?_;exact en [_]
  ·rw [h1,a₆] at cb;have hst:=nE.start hj0 h2 h3;refine bU seat Tryz.func103 42 ?_;refine ad ?_;refine yc (cb) [(0,0)] ?_;refine ad ?_;refine ar (Nat×Nat×List (Ent)) (fun x=> [(6, .int .i64 x.2.1),(5, .int .i64 x.1),(1, .fn g [.ep v 0 []]),(0, .ms 0 41 0 l.length)]) (fun x=> [(0,⟨64,41,true,0,x.2.2.map au⟩)]) 1 (fun x=>nE p l x.1 x.2.1 x.2.2) (fun x=>l.length - x.2.1) (j0,j0 + 1,l) hst (vm [] []) ?_;clear hst cb;rintro⟨i,j,c⟩ hI;try dsimp only
   dsimp only at hI;have hij:=hI.ij;have hjl:=hI.jl;have hcl:=hI.hl;refine ad ?_;refine ae rfl ?_ ?_ <;> intro h
   ·have hj:j < l.length:=by have:=ot h;omega
    have hel:=al.mk (AM (hI.at_ hj));have hpx:=hp _ (a₂ hj);have hsk:=hI.skip hj;have hke:=hI.keep hj;generalize hb:p l[j] =b at *;generalize l[j] =x at *;refine ad ?_;refine yv (hpx) ?_ (h2:=hg);refine ad ?_;cases b with
    | true=>
     refine ad ?_;exact⟨(i,j + 1,c),hsk rfl,dm,(by dsimp only;exact(vm [] []))⟩
    | false=>
     have hci:al (bK (c.map au) (0 + i)) (au c[i]):=al.mk (AM (a₀ om));have hse:aX (setL (c.map au) (0 + i) (au x)) ((c.set i x).map au):=aX.mk (by rw [setL_eq,a₆,e₈]);generalize c[i] =y at *;refine ad ?_;exact⟨(i + 1,j + 1,c.set i x),hke rfl,dm,(by dsimp only;exact(vm [] []))⟩
   ·have hj:j=l.length:=by have:=oF h;omega
    subst hj;obtain⟨f1,f2⟩:=hI.fin;rw [hF] at f1 f2;have hil:i≤l.length:=om;have hlo:=al.mk (CL (κ:= .i64) hil);have hhi:=al.mk (II (κ:= .i64) hil);have hsd:bJ (0 + i + (l.length - i)≤(c.map au).length∧0≤0 + i):=bJ.mk ⟨by rw [b₄];omega,b₂ _⟩;have hres:(c.map au).take (0 + i) ++ (repM (l.length - i) JI ++ (c.map au).drop (0 + i + (l.length - i)))=F.map au ++ repM (l.length - F.length) JI:=by
     rw [a₆,← e₄,f1,c₆ (by rw [b₄];omega),b₉,← f2]
    rw [← f2] at hres ⊢;clear f1 f2 hF;refine ad ?_;refine⟨[_],[],[],rfl,rfl,trivial,rfl,⟨?_,trivial⟩,?_⟩
    ·exact rv
    ·exact⟨.inr ⟨0,_,rfl,rfl,rfl,rfl, .inl rfl, .inl rfl, .inl ⟨hres.symm,rfl⟩⟩,trivial⟩
 have:=Bp (l.filter fun x=> !p x).length main (b₂ _);rw [d₁ sm,c₁ sm] at this;exact this
end
section
variable {G:GS}
theorem wZ: ∀(l:List Int),bH (l.map (MV.int .i64)) 1=true
 | [] =>rfl
 | _ :: _=>rfl
theorem C9 (l:List Int) (hbl:l.length < 536870912):aL Tryz.prog G 159 [bS l] [] 0 (bS l) [] 0:=by
 unfold bS;refine bU seat Tryz.func159 8 ?_;refine ad ?_;refine wz rfl rfl (fun b hb=>?_);cases b with
 | true=>
  have h0:=hb rfl;have h1:l= [] :=b₅.1 h0;subst h1;refine ad ?_;refine aw ?_;exact en [_]
 | false=>
  refine ad ?_;refine bc rfl rfl (by intro R hR;refine dZ hR ?_;refine a₅ ((wZ l)) ?_;refine a₅ ⟨rfl,aF (by kernel_rfl) pf⟩ ?_;refine⟨l.map (MV.int .i64),sv (by show [] ++ l.map (MV.int .i64)=_;rw [c₀]),l.length,sv pf,?_⟩;exact hR) rfl ?_;refine ad ?_;refine⟨[_],[],[(5,l.length)],rfl,rfl,?_,rfl,⟨?_,trivial⟩,?_⟩
  ·exact⟨by show l.length≤(l.map (MV.int .i64)).length;simp,trivial⟩
  ·exact .inr ⟨rfl,rfl,rfl,d₄ (a₆ _),bV (MV.int .i64) l⟩
  ·exact mm
theorem qM (e:Ent) (hr:e.raw.length < 536870912) (hp:e.peers.length < 536870912):aD Tryz.prog G 135 [au e] (au e):=by
 obtain⟨e1,e2,e3,e4,e5,e6,e7,e8,e9,e10⟩:=e;have c1:=uk (G:=G) e2 hr;have c2:=C9 (G:=G) e10 hp;unfold au bS at *;dsimp only at *;refine bf seat Tryz.func135 12 ?_;refine ad ?_;refine av [ag 0,ag 1,da 2,ag 3,ag 4,da 5,ag 6,ag 7,ag 8,ag 9] ?_;refine ad ?_;refine jk (c1) ?_;refine jk (c2) ?_;refine aw ?_;rfl
def mJ (l:List (List UInt8)):VM:= [(0,⟨55,32,true,0,l.map keyM⟩)]
theorem pO (l:List Ent) (hl:l.length < 1000000) (hok: ∀e∈l,e.raw.length < 536870912∧e.peers.length < 536870912):aL Tryz.prog G 94 [.sl l.length (l.map au)] [] 0 (.ms 0 41 0 l.length) [(0,⟨64,41,true,0,l.map au⟩)] 1:=by
 refine bU seat Tryz.func94 19 ?_;refine ad ?_;refine ar Nat (fun k=> [(8, .int .i64 k),(7, .int .i64 l.length),(6, .sl l.length (l.map au)),(3, .ms 0 41 0 k)]) (fun k=> [(0,⟨64,41,true,0,(l.take k).map au⟩)]) 1 (fun k=>k≤l.length) (fun k=>l.length - k) 0 (b₂ _) (vm [] []) ?_;intro k hk;try dsimp only
 refine ad ?_;refine ae rfl ?_ ?_ <;> intro h
 ·have hk':k < l.length:=by have:=ot h;omega
  have hke:=hok _ (a₂ hk');(have fct:=al.mk (dS hk');refine ad ?_);refine bL (qM l[k] hke.1 hke.2) ?_;refine bc rfl rfl (by intro R hR;refine dZ hR ?_;(refine a₅ (b₀ _) ?_;refine⟨_,rfl,?_⟩;refine a₅ ⟨(by simp;omega),aF (by kernel_rfl) pf⟩ ?_;refine⟨(l.take (k + 1)).map au,sv (by rw [a₁ hk',f₅];rfl),k + 1,sv pf,?_⟩);exact hR) rfl ?_;refine ad ?_;exact⟨k + 1,by show k + 1≤l.length;omega,by show l.length - (k + 1) < l.length - k;omega,(by dsimp only;exact(vm [(0,_)] []))⟩
 ·have hk':k=l.length:=by have:=oF h;omega
  subst hk';rw [c₃];refine ad ?_;refine⟨[_],[(0,0)],[],rfl,rfl,trivial,rfl,⟨?_,trivial⟩,?_⟩
  ·exact .inr ⟨_,rfl,rfl⟩
  ·exact mm
end
section
variable {G:GS}
attribute [local irreducible] aj aC aG aM aQ vC aY aA
theorem EM: ∀l:List UInt8,MV.flats (u8s l)=true
 | [] =>rfl
 | a :: l=>by
  show(true && MV.flats (u8s l))=true
  rw [EM l];rfl
theorem JK (k:List UInt8):(keyM k).flat=true:=EM k
theorem sr (l:List (List UInt8)):RD MV.flat (VM.get (mJ l)) (.sl l.length (l.map keyM)) (.ms 0 32 0 l.length):=
 RD.row ⟨55,32,true,0,l.map keyM⟩ rfl rfl sm (fun x hx=>by obtain⟨y,_,rfl⟩:=d₀.1 hx;exact JK y)
theorem lC (l:List (List UInt8)) (hl:l.length≤1000000):aL Tryz.prog G 71 [.sl l.length (l.map keyM)] [] 0 (.ms 0 32 0 l.length) (mJ l) 1:=by
 unfold mJ;refine bU seat Tryz.func71 8 ?_;refine ad ?_;refine wz rfl rfl (fun b hb=>?_);cases b with
 | true=>
  have h0:=hb rfl;have h1:l= [] :=b₅.1 h0;subst h1;refine ad ?_;refine aw ?_;exact en [_]
 | false=>
  refine ad ?_;refine bc rfl rfl (by intro R hR;refine dZ hR ?_;refine a₅ ((eI l)) ?_;refine a₅ ⟨rfl,aF (by kernel_rfl) pf⟩ ?_;refine⟨l.map keyM,sv (by show [] ++ l.map keyM=_;rw [c₀]),l.length,sv pf,?_⟩;exact hR) rfl ?_;refine ad ?_;exact eb [_] [(0,5)] []
theorem Br (l:List (List UInt8)) (hl:l.length≤1000000):aL Tryz.prog G 71 [.sl l.length (l.map keyM)] [] 0 (.sl l.length (l.map keyM)) [] 0:=
 iR (lC l hl) (Bo.same rfl) (.one (sr l))
theorem Mf (x k:List UInt8) (h:x.length=k.length):aD Tryz.prog G 73 [keyM x, .ep (keyM k) 0 []] (.bool (decide (x=k))):=by
 have q1:=al.mk (qy h);have s1:=bJ.mk (ig x k);generalize decide (x=k)=b at *;refine bf seat Tryz.func73 7 ?_;refine ad ?_;refine aw ?_;rfl
theorem w3 (l:List (List UInt8)) (k:List UInt8) (hl:l.length≤1000000) (hk32:k.length=32) (hs:eF l):aL Tryz.prog G 36 [.sl l.length (l.map keyM),keyM k] [] 0 (.ms 0 32 0 (cR k l).length) (mJ (cR k l)) 1:=by
 have c1:=lC (G:=G) l hl;have c2:=Oa (G:=G) l hl 73 (keyM k) (fun x=>decide (x=k)) (by kernel_rfl) fun x hx=>Mf x k (by rw [hs x hx,hk32])
 rw [show (l.filter fun x=> !decide (x=k))=cR k l by unfold cR;congr 1;funext x;simp] at c2;generalize cR k l=F at *;unfold mJ at *;refine bU seat Tryz.func36 9 ?_;refine ad ?_;refine yc (c1) [] ?_;refine ad ?_;refine bR rfl (fun _ h=>h) rfl (c2) [(0,3)] [(0,1)] ⟨rfl,mm,rfl,⟨.inr ⟨_,rfl,rfl⟩, .inr ⟨_,rfl,⟨.inr ⟨rfl,c₇ 0,rfl,rfl,rfl,rfl⟩,trivial⟩⟩,trivial⟩,mm⟩ rfl rfl ?_;refine ad ?_;exact eb [_] [(0,3)] []
theorem EN (l:List (List UInt8)) (k:List UInt8) (hl:l.length≤1000000) (hk32:k.length=32) (hs:eF l):aL Tryz.prog G 36 [.sl l.length (l.map keyM),keyM k] [] 0 (.sl (cR k l).length ((cR k l).map keyM)) [] 0:=
 iR (w3 l k hl hk32 hs) (Bo.same rfl) (.one (sr _))
theorem Pm (s:Int):(if (0:Int) > s then 0 else s)=max s 0:=by
 by_cases hs:(0:Int) > s
 ·rw [if_pos hs];omega
 ·rw [if_neg hs];omega
theorem Mg (s:Int):(if (1024:Int) < s then 1024 else s)=min s 1024:=by
 by_cases hs:(1024:Int) < s
 ·rw [if_pos hs];omega
 ·rw [if_neg hs];omega
theorem GV (l:List (List UInt8)) (size:Int) (k:List UInt8) (hl:l.length≤1000000) (hk32:k.length=32) (hs:eF l):aL Tryz.prog G 34 [.sl l.length (l.map keyM), .int .i64 size,keyM k] [] 0 (.ms 0 32 0 (dK k l size).length) (mJ (dK k l size)) 1:=by
 have c1:=yK (G:=G) l k hl hk32 hs;have e1:=aX.mk (Pm size);have e2:=aX.mk (Mg (max size 0));unfold dK;by_cases hk:k∈l
 ·rw [decide_eq_true hk] at c1;rw [if_pos hk];have c2:=w3 (G:=G) l k hl hk32 hs;obtain⟨W,hW⟩: ∃W,W=cR k l ++ [k] :=⟨_,rfl⟩
  rw [← hW];have hWl:W.length=(cR k l).length + 1:=by rw [hW];simp
  have hpl:(cR k l).length≤l.length:=c₉ _ _;have hW2:W.map keyM=(cR k l).map keyM ++ [keyM k] :=by rw [hW];simp
  clear hW;generalize cR k l=D at *;generalize min (max size 0) 1024=z at *;generalize max size 0=y at *;unfold mJ at *;refine bU seat Tryz.func34 36 ?_;refine ad ?_;refine bL (c1) ?_;refine av [ag 0,ag 1,da 2,ag 3,ag 4,ag 5,ag 6] ?_;refine ad ?_;refine bB rfl (fun _ h=>h) rfl [] (c2) [] [] ⟨rfl,trivial,rfl,lm,mm⟩ rfl rfl rfl rfl rfl ?_;refine ad ?_;refine bQ rfl (by intro R hR;refine dZ hR ?_;(refine a₅ (b₀ _) ?_;refine⟨_,rfl,?_⟩;refine a₅ ⟨sm,aF (by kernel_rfl) pf⟩ ?_;refine⟨W.map keyM,sv (by rw [hW2];rfl),W.length,sv pf,?_⟩);exact hR) rfl ?_;refine ad ?_;exact eb [_] [(0,_)] []
 ·rw [decide_eq_false hk] at c1;rw [if_neg hk];have hz:0≤min (max size 0) 1024∧min (max size 0) 1024≤1024:=om;generalize min (max size 0) 1024=z at *;generalize max size 0=y at *;by_cases h0:z=0
  ·rw [if_pos h0];subst h0;have c2:=lC (G:=G) l hl;unfold mJ at *;refine bU seat Tryz.func34 36 ?_;refine ad ?_;refine bL (c1) ?_;refine yc (c2) [] ?_;refine ad ?_;exact eb [_] [(0,_)] []
  ·rw [if_neg h0];obtain⟨d,hd⟩: ∃d:Nat,d=(max ((l.length:Int) - z + 1) 0).toNat:=⟨_,rfl⟩
   rw [← hd];have hdl:d≤l.length:=om;have e3:=aX.mk (show(if (0:Int) > (l.length:Int) - z + 1 then 0 else(l.length:Int) - z + 1)=(d:Int) by rw [Pm];omega);have b1:=al.mk (CL (κ:= .i64) hdl);have b2:=bJ.mk (eI l);have b3:aX (cutL (l.map keyM) d l.length) ((l.drop d).map keyM):=aX.mk (by unfold cutL;rw [c₁ (by rw [b₆,b₄];exact b₀ _),List.map_drop]);have b4:=aX.mk (show l.length - d=(l.drop d).length by rw [b₆]);have c2:=lC (G:=G) (l.drop d) (by rw [b₆];omega);obtain⟨W,hW⟩: ∃W,W=l.drop d ++ [k] :=⟨_,rfl⟩
   rw [← hW];have hWl:W.length=(l.drop d).length + 1:=by rw [hW];simp
   have hpl:(l.drop d).length≤l.length:=by rw [b₆];omega
   have hW2:W.map keyM=(l.drop d).map keyM ++ [keyM k] :=by rw [hW];simp
   clear hW;generalize l.drop d=D at *;unfold mJ at *;refine bU seat Tryz.func34 36 ?_;refine ad ?_;refine bL (c1) ?_;refine ae rfl ?_ ?_ <;> intro h
   ·exact absurd (by simpa using h) h0
   refine ad ?_;refine av [ag 0,ag 1,ag 2,ag 3,ag 4,ag 5,ag 6,ag 7,da 8,ag 9,ag 10,ag 11,ag 12] ?_;refine ad ?_;refine bB rfl (fun _ h=>h) rfl [] (c2) [] [] ⟨rfl,trivial,rfl,lm,mm⟩ rfl rfl rfl rfl rfl ?_;refine ad ?_;refine bQ rfl (by intro R hR;refine dZ hR ?_;(refine a₅ (b₀ _) ?_;refine⟨_,rfl,?_⟩;refine a₅ ⟨sm,aF (by kernel_rfl) pf⟩ ?_;refine⟨W.map keyM,sv (by rw [hW2];rfl),W.length,sv pf,?_⟩);exact hR) rfl ?_;refine ad ?_;exact eb [_] [(0,_)] []
theorem yL (l:List (List UInt8)) (size:Int) (k:List UInt8) (hl:l.length≤1000000) (hk32:k.length=32) (hs:eF l):aL Tryz.prog G 34 [.sl l.length (l.map keyM), .int .i64 size,keyM k] [] 0 (.sl (dK k l size).length ((dK k l size).map keyM)) [] 0:=
 iR (GV l size k hl hk32 hs) (Bo.same rfl) (.one (sr _))
end
section
attribute [local irreducible] aj aC aG aM aQ vC aY aA
theorem uQ (a:nC) (ha:gz a):aD Tryz.prog GU 93 [appM a] (appM a):=by
 have c1:=yC (G:=GU) a.com (by have:=ha.1.1;omega);have c2:=yC (G:=GU) a.chk (by have:=ha.2.1.1;omega);have c3:=yC (G:=GU) a.nxt (by have:=ha.2.2.1.1;omega);obtain⟨⟨a1,b1⟩,⟨a2,b2⟩,⟨a3,b3⟩,op,price⟩:=a;unfold appM lgM at *;dsimp only at *;refine bf seat Tryz.func93 16 ?_;refine ad ?_;refine av [ag 0,ag 1,da 2,ag 3,ag 4,da 5,ag 6,ag 7,da 8,ag 9,ag 10,ag 11,ag 12,ag 13,ag 14] ?_;refine ad ?_;refine jk (c1) ?_;refine jk (c2) ?_;refine jk (c3) ?_;refine aw ?_;rfl
theorem JL (a:nC) (raw:List UInt8) (ha:gz a) (hraw:raw.length≤140737488355328):aD Tryz.prog GU 100 [appM a, .sl raw.length (u8s raw)] (jO (bM a raw)):=by
 have c1:=MW a.chk a.price raw ha.2.1 ha.2.2.2 hraw;unfold bM;obtain⟨⟨a1,b1⟩,⟨a2,b2⟩,⟨a3,b3⟩,op,price⟩:=a;dsimp only at *;generalize oh ⟨a2,b2⟩ price raw=y at *;obtain⟨⟨nacs,ncol⟩,⟨ec,esn,esq,egs,epr⟩⟩:=y;unfold appM lgM jO at *;dsimp only at *;refine bf seat Tryz.func100 17 ?_;refine ad ?_;refine kX (c1) ?_;refine aw ?_;rfl
theorem GW (a:nC) (raw:List UInt8) (ha:gz a) (hraw:raw.length≤140737488355328):aD Tryz.prog GU 105 [appM a, .sl raw.length (u8s raw)] (appM (fq a raw)):=by
 have c0:=uQ a ha;have c1:=MW a.chk a.price raw ha.2.1 ha.2.2.2 hraw;unfold fq;obtain⟨⟨a1,b1⟩,⟨a2,b2⟩,⟨a3,b3⟩,op,price⟩:=a;dsimp only at *;generalize oh ⟨a2,b2⟩ price raw=y at *;obtain⟨⟨nacs,ncol⟩,⟨ec,esn,esq,egs,epr⟩⟩:=y;unfold appM lgM jO at *;dsimp only at *;refine bf seat Tryz.func105 19 ?_;refine ad ?_;refine bL (c0) ?_;refine kX (c1) ?_;refine aw ?_;rfl
end
section
section
variable {T:bh} {M:VM} {E:VE} {l:List ResultVar} {K:List MV→Prop}
theorem Pn {t:Nat} {v:MV} (hv:VE.get E t=some v) (h:dW T M E l fun r=>K (v :: r)):dW T M E (.tmp t :: l) K:=by
 unfold dW;rw [hv];exact h
theorem Oc {p ty c es k fo:Nat} {path:List Nat} {b:MB} {m r:MV} (hp:VE.get E p=some (.ptr c es k fo path)) (hc:VM.get M c=some b) (hm:bK b.l k=some m) (hr:xX m path=some r) (hk:(FQ T ty b.es es r && Lk m path fo)=true) (h:dW T M E l fun x=>K (r :: x)):dW T M E (.cell p ty :: l) K:=by
 have h2:=mg (Pg:=default) (n:=0) (dst:=none) (ty:=0) (pos:=default) (after:= #[]) (g:=none) (x:= .tmp p) (R:=fun y:MV×Dl=>dW T M E l fun x=>K (y.1 :: x)) hp hc hm hr hk h;change (rd (VE.get E) (.tmp p) fun p=>gq T (VM.get M) ty p).runP _ at h2;unfold rd at h2;rw [show iU (VE.get E) (Operand.tmp p)=some (.ptr c es k fo path) from hp] at h2;unfold dW;rw [hp];exact h2
theorem QG {rs:List ResultVar} {vs:List MV} (h:dW T M E rs (fun v=>v=vs):=by first | ((repeat(first | ((with_reducible apply Oc);(case hp=>exact rfl);(case hc=>exact rfl);(case hm=>exact rfl);(case hr=>exact rfl);(case hk=>kernel_rfl)) | ((with_reducible apply Pn);(case hv=>exact rfl))));exact rfl) | (refine aw ?_;exact rfl)):dW T M E rs (fun v=>v=vs):=h
end
end
section
variable {G:GS}
attribute [local irreducible] aj aC aG aM aQ vC aY aA
def lK (l:List Int):MB:=⟨3,1,true,0,l.map (MV.int .i64)⟩
def kC (l:List Ent):MB:=⟨64,41,true,0,l.map au⟩
def qN (e:Ent) (c:Nat):MV:= .st [keyM e.key, .sl e.raw.length (u8s e.raw), .str e.sender, .int .u64 e.seq, .int .u64 e.gas, .int .u64 e.prio, .int .i64 e.height, .int .i64 e.time, .int .i64 e.order, .ms c 1 0 e.peers.length]
theorem Da (l:List Int) (hl:l.length≤1000000):aL Tryz.prog G 159 [bS l] [] 0 (.ms 0 1 0 l.length) [(0,lK l)] 1:=by
 unfold lK bS;refine bU seat Tryz.func159 8 ?_;refine ad ?_;refine wz rfl rfl (fun b hb=>?_);cases b with
 | true=>
  have h0:=hb rfl;have h1:l= [] :=b₅.1 h0;subst h1;refine ad ?_;refine aw ?_;exact en [_]
 | false=>
  refine ad ?_;refine bc rfl rfl (by intro R hR;refine dZ hR ?_;refine a₅ ((wZ l)) ?_;refine a₅ ⟨rfl,aF (by kernel_rfl) pf⟩ ?_;refine⟨l.map (MV.int .i64),sv (by show [] ++ l.map (MV.int .i64)=_;rw [c₀]),l.length,sv pf,?_⟩;exact hR) rfl ?_;refine ad ?_;exact eb [_] [(0,5)] []
theorem Db (e:Ent) (hr:e.raw.length < 536870912) (hp:e.peers.length≤1000000):aL Tryz.prog G 135 [au e] [] 0 (qN e 0) [(0,lK e.peers)] 1:=by
 obtain⟨e1,e2,e3,e4,e5,e6,e7,e8,e9,e10⟩:=e;have c1:=uk (G:=G) e2 hr;have c2:=Da (G:=G) e10 hp;unfold au qN lK bS at *;dsimp only at *;refine bU seat Tryz.func135 12 ?_;refine ad ?_;refine av [ag 0,ag 1,da 2,ag 3,ag 4,da 5,ag 6,ag 7,ag 8,ag 9] ?_;refine ad ?_;refine jk (c1) ?_;refine bB rfl (fun _ h=>h) rfl [] (c2) [] [] ⟨rfl,trivial,rfl,lm,mm⟩ rfl rfl rfl rfl rfl ?_;refine ad ?_;refine aw ?_;exact eb [_] [(0,7)] []
def eo (l:List Ent) (e:Ent) (i k c:Nat):List MV:=(l.take i).map au ++ qN e c :: ((l.take k).drop (i + 1)).map au
theorem w4 {σ:Nat→Option Nat} {fz:Fz}: ∀{a b c d:List MV},cU.relVs σ fz a c→cU.relVs σ fz b d→cU.relVs σ fz (a ++ b) (c ++ d)
 | [],b,[],d,_,h=>h
 | _ :: a,b,_ :: c,d,h1,h2=>⟨h1.1,w4 h1.2 h2⟩
 | [],_,_ :: _,_,h,_=>h.elim
 | _ :: _,_,[],_,h,_=>h.elim
theorem jd: ∀l:List Ent,MV.idFrees (l.map au)=true
 | [] =>rfl
 | e :: l=>by
  show(true && MV.idFrees (l.map au))=true
  rw [jd l];rfl
theorem JM {σ:Nat→Option Nat} {fz:Fz} (e:Ent) {c d:Nat} (h:σ c=some d):cU σ fz (qN e c) (qN e d):=by
 unfold qN;exact .inr ⟨_,rfl,⟨rfl,rfl⟩, .inl rfl,⟨rfl,rfl⟩,⟨rfl,rfl⟩,⟨rfl,rfl⟩,⟨rfl,rfl⟩,⟨rfl,rfl⟩,⟨rfl,rfl⟩,⟨rfl,rfl⟩, .inr ⟨d,h,rfl⟩,trivial⟩
theorem iH {σ:Nat→Option Nat} {fz:Fz} (l:List Ent) (e:Ent) (i k:Nat) {c d:Nat} (h:σ c=some d):cU.relVs σ fz (eo l e i k c) (eo l e i k d):=
 w4 (dI _ (jd _)) ⟨JM e h,dI _ (jd _)⟩
theorem Dc (l:List Ent) (e:Ent) (i c:Nat):(l.take i).map au ++ [qN e c] =eo l e i (i + 1) c:=by
 unfold eo;rw [c₆ (by rw [b₃];omega)];rfl
theorem GX {l:List Ent} {e:Ent} {i k c:Nat} (hk:k < l.length) (h:i < k):eo l e i k c ++ [au l[k]] =eo l e i (k + 1) c:=by
 unfold eo;rw [a₁ hk,List.drop_append_of_le_length (by rw [b₃];omega)];simp
theorem uR {l:List Ent} {e:Ent} {i k c:Nat} (hi:i < k) (hk:k≤l.length):(eo l e i k c).length=k:=by
 unfold eo;simp only [a₇,f₃,b₄,b₆,b₃];omega
theorem yM (l:List Ent) (i:Nat) (hi:i < l.length) (hl:l.length < 1000000) (hok: ∀e∈l,e.raw.length < 536870912∧e.peers.length≤1000000):aL Tryz.prog G 94 [.sl l.length (l.map au)] [] 0 (.ms 0 41 0 l.length) [(0,⟨64,41,false,0,eo l l[i] i l.length 1⟩),(1,lK l[i].peers)] 2:=by
 obtain⟨e0,he0⟩: ∃e0,e0=l[i] :=⟨_,rfl⟩
 have hi0:=hok _ (a₂ hi);rw [← he0] at hi0;have cp:=Db (G:=G) e0 hi0.1 hi0.2;rw [← he0];unfold lK at *;refine bU seat Tryz.func94 19 ?_;refine ad ?_;refine ar (Bool×Nat) (fun x=> [(8, .int .i64 x.2),(7, .int .i64 l.length),(6, .sl l.length (l.map au)),(3, .ms 0 41 0 x.2)]) (fun x=>bif x.1 then [(0,⟨64,41,false,0,eo l e0 i x.2 1⟩),(1,⟨3,1,true,0,e0.peers.map (MV.int .i64)⟩)] else [(0,⟨64,41,true,0,(l.take x.2).map au⟩)]) 2 (fun x=>(x.1=false→x.2≤i)∧(x.1=true→i < x.2∧x.2≤l.length)) (fun x=>l.length - x.2) (false,0) ⟨fun _=>b₂ _,fun h=>nomatch h⟩ (vm [] []) ?_;rintro⟨b,k⟩ ⟨hb0,hb1⟩;cases b with
 | false=>
  have hki:k≤i:=hb0 rfl;clear hb0 hb1;have hk':k < l.length:=om;try dsimp only [cond_false]
  refine ad ?_;refine ae rfl ?_ ?_ <;> intro h
  rotate_left
  ·exact absurd (oF h) om
  have hel:=dS hk';have hke:=hok _ (a₂ hk');by_cases hkk:k=i
  ·subst hkk;rw [← he0] at hel;have hel:=al.mk hel;refine ad ?_;refine yc (cp) [] ?_;refine ad ?_;refine bc rfl rfl (by intro R hR;refine dZ hR ?_;(refine a₅ (b₀ _) ?_;refine⟨_,rfl,?_⟩;refine a₅ ⟨(by simp;omega),aF (by kernel_rfl) pf⟩ ?_;refine⟨eo l e0 k (k + 1) 9,sv (by rw [← Dc];rfl),k + 1,sv pf,?_⟩);exact hR) rfl ?_;refine ad ?_;exact⟨(true,k + 1),⟨fun h=>(nomatch h),fun _=>⟨c₇ k,hk'⟩⟩,dm,(by dsimp only [cond_true];exact vm [(0,11),(1,9)] [] (h2:=⟨.inr ⟨11,_,rfl,rfl,rfl,rfl, .inl rfl, .inl rfl, .inr (iH _ _ _ _ rfl)⟩,by exact mm⟩))⟩
  ·have cq:=qM (G:=G) l[k] hke.1 om;have hsucc:(l.take (k + 1)).map au=(l.take k).map au ++ [au l[k]] :=by rw [a₁ hk',f₅];rfl
   generalize l[k] =e at *;have hel:=al.mk hel;refine ad ?_;refine bL (cq) ?_;refine bc rfl rfl (by intro R hR;refine dZ hR ?_;(refine a₅ (b₀ _) ?_;refine⟨_,rfl,?_⟩;refine a₅ ⟨(by simp;omega),aF (by kernel_rfl) pf⟩ ?_;refine⟨(l.take (k + 1)).map au,sv (by rw [hsucc];rfl),k + 1,sv pf,?_⟩);exact hR) rfl ?_;refine ad ?_;exact⟨(false,k + 1),⟨fun _=>by omega,fun h=>nomatch h⟩,dm,(by dsimp only;exact(vm [(0,_)] []))⟩
 | true=>
  obtain⟨hik,hkl⟩:=hb1 rfl;clear hb0 hb1;dsimp only at hik hkl;try dsimp only [cond_true]
  have hlen:=uR (e:=e0) (c:=1) hik hkl;refine ad ?_;refine ae rfl ?_ ?_ <;> intro h
  ·have hk':k < l.length:=by have:=ot h;omega
   have hel:=dS hk';have hke:=hok _ (a₂ hk');have cq:=qM (G:=G) l[k] hke.1 om;have hsucc:=GX (e:=e0) (c:=1) hk' hik;generalize l[k] =e at *;have hel:=al.mk hel;refine ad ?_;refine bL (cq) ?_;refine bc rfl rfl (by intro R hR;refine dZ hR ?_;(refine a₅ (b₀ _) ?_;refine⟨_,rfl,?_⟩;refine a₅ ⟨hlen,aF (by kernel_rfl) pf⟩ ?_;refine⟨eo l e0 i (k + 1) 1,sv (by rw [← hsucc];rfl),k + 1,sv pf,?_⟩);exact hR) rfl ?_;refine ad ?_;exact⟨(true,k + 1),⟨fun h=>(nomatch h),fun _=>⟨om,hk'⟩⟩,dm,(by dsimp only [cond_true];exact vm [(0,10),(1,1)] [] (h2:=⟨.inr ⟨10,_,rfl,rfl,rfl,rfl, .inl rfl, .inl rfl, .inr (iH _ _ _ _ rfl)⟩,by exact mm⟩))⟩
  ·have hk':k=l.length:=by have:=oF h;omega
   subst hk';refine ad ?_;refine⟨[_],[(0,0),(1,1)],[],rfl,rfl,trivial,rfl,⟨?_,trivial⟩,?_⟩
   ·exact rv
   ·exact⟨.inr ⟨0,_,rfl,rfl,rfl,rfl, .inl rfl, .inl rfl, .inr (iH _ _ _ _ rfl)⟩,mm⟩
end
section
attribute [local irreducible] aj aC aG aM aQ vC aY aA
theorem w5 {ρ:Nat→Nat}: ∀a b:List MV,renVs ρ (a ++ b)=renVs ρ a ++ renVs ρ b
 | [],_=>rfl
 | x :: a,b=>congrArg (cJ ρ x :: ·) (w5 a b)
theorem oq {ρ:Nat→Nat}: ∀l:List Ent,renVs ρ (l.map au)=l.map au
 | [] =>rfl
 | e :: l=>congrArg (au e :: ·) (oq l)
theorem uS {ρ:Nat→Nat} (l:List Ent) (e:Ent) (i k c:Nat):renVs ρ (eo l e i k c)=eo l e i k (ρ c):=by
 unfold eo;rw [w5,oq]
 show _ ++ qN e (ρ c) :: renVs ρ _=_
 rw [oq]
abbrev stE (s:cL) (c:Nat):MV:= .st [cfM s.cfg,appM s.app, .int .i64 s.height, .int .i64 s.time, .int .i64 s.arr, .ms c 41 0 s.ents.length, .sl s.cache.length (s.cache.map keyM)]
theorem uT (s:cL) (ha:gz s.app) (hl:s.ents.length < 1000000) (hc:s.cache.length≤1000000) (hok: ∀e∈s.ents,e.raw.length < 536870912∧e.peers.length < 536870912):aL Tryz.prog GU 49 [dq s] [] 0 (stE s 0) [(0,kC s.ents)] 1:=by
 have c1:=uQ s.app ha;have c2:=pO (G:=GU) s.ents hl hok;have c3:=Br (G:=GU) s.cache hc;clear ha hok;obtain⟨⟨f1,f2,f3,f4,f5,f6,keep,f8,f9,f10,f11,f12⟩,⟨⟨a1,a2⟩,⟨a3,a4⟩,⟨a5,a6⟩,a7,a8⟩,height,time,arr,ents,cache⟩:=s;unfold kC;dsimp only [dq,stE,cfM,appM,lgM] at *;generalize ents.map au=b4 at *;generalize cache.map keyM=b6 at *;try generalize a1.map bd=b1 at *
 try generalize a1.length=d1 at *
 try generalize a3.map bd=b3 at *
 try generalize a3.length=d3 at *
 try generalize a5.map bd=b5 at *
 try generalize a5.length=d5 at *
 refine bU seat Tryz.func49 16 ?_;refine ad ?_;refine av [ag 0,ag 1,da 2,ag 3,ag 4,da 5,ag 6,ag 7,da 8,ag 9,ag 10,ag 11,ag 12,ag 13,ag 14] ?_;refine ad ?_;refine du (c1) ?_;refine bB rfl (fun _ h=>h) rfl [] (c2) [] [] ⟨rfl,trivial,rfl,lm,mm⟩ rfl rfl rfl rfl rfl ?_;refine ad ?_;refine jk (c3) ?_;refine aw ?_;exact eb [_] [(0,7)] []
theorem Dd (s:cL) (ha:gz s.app) (hl:s.ents.length < 1000000) (hc:s.cache.length≤1000000) (hok: ∀e∈s.ents,e.raw.length < 536870912∧e.peers.length≤1000000) (i:Nat) (hi:i < s.ents.length):aL Tryz.prog GU 49 [dq s] [] 0 (stE s 0) [(0,⟨64,41,false,0,eo s.ents s.ents[i] i s.ents.length 1⟩),(1,lK s.ents[i].peers)] 2:=by
 have c1:=uQ s.app ha;have c2:=yM (G:=GU) s.ents i hi hl hok;have c3:=Br (G:=GU) s.cache hc;clear ha hok;obtain⟨⟨f1,f2,f3,f4,f5,f6,keep,f8,f9,f10,f11,f12⟩,⟨⟨a1,a2⟩,⟨a3,a4⟩,⟨a5,a6⟩,a7,a8⟩,height,time,arr,ents,cache⟩:=s;dsimp only at hi;have hrel: ∀{σ:Nat→Option Nat} {fz:Fz} {ρ:Nat→Nat},σ 1=some (ρ 1)→cU.relVs σ fz (eo ents ents[i] i ents.length 1) (renVs ρ (eo ents ents[i] i ents.length 1)):=fun h=>by rw [uS];exact iH _ _ _ _ h
 generalize eo ents ents[i] i ents.length 1=Z at *;unfold lK at *;dsimp only [dq,stE,cfM,appM,lgM] at *;generalize ents[i].peers.map (MV.int .i64)=b5 at *;generalize ents.map au=b4 at *;generalize cache.map keyM=b6 at *;try generalize a1.map bd=b1 at *
 try generalize a1.length=d1 at *
 try generalize a3.map bd=b3 at *
 try generalize a3.length=d3 at *
 try generalize a5.map bd=b5 at *
 try generalize a5.length=d5 at *
 refine bU seat Tryz.func49 16 ?_;refine ad ?_;refine av [ag 0,ag 1,da 2,ag 3,ag 4,da 5,ag 99,ag 6,ag 7,da 8,ag 9,ag 10,ag 11,ag 12,ag 13,ag 14] ?_;refine ad ?_;refine du (c1) ?_;refine bB rfl (fun _ h=>h) rfl [8] (c2) [] [] ⟨rfl,trivial,rfl,lm,mm⟩ rfl rfl rfl rfl rfl ?_;refine ad ?_;refine jk (c3) ?_;refine aw ?_;refine⟨[_],[(0,7),(1,8)],[],rfl,rfl,trivial,rfl,⟨?_,trivial⟩,?_⟩
 ·exact .inr ⟨_,rfl,lm⟩
 ·refine⟨.inr ⟨7,_,rfl,rfl,rfl,rfl, .inl rfl, .inl rfl, .inr (hrel rfl)⟩,?_⟩;exact mm
end
section
attribute [local irreducible] aj aC aG aM aQ vC aY aA
section
variable {G:GS}
theorem EO {σ:Nat→Option Nat} {fz:Fz} {f:FuncId} {x y:MV} (h:cU σ fz x y):cU σ fz (.fn f [x]) (.fn f [y]):= .inr ⟨_,rfl,h,trivial⟩
theorem Mh (e:Ent) (k:List UInt8) (h:e.key.length=k.length):aD Tryz.prog G 76 [au e, .ep (keyM k) 0 []] (.bool (decide (e.key=k))):=by
 have q1:=al.mk (qy h);have s1:=bJ.mk (ig e.key k);generalize decide (e.key=k)=b at *;obtain⟨e1,e2,e3,e4,e5,e6,e7,e8,e9,e10⟩:=e;unfold au;dsimp only at *;refine bf seat Tryz.func76 8 ?_;refine ad ?_;refine aw ?_;rfl
theorem uU (s:cL) (k:List UInt8) (hl:s.ents.length≤1000000) (hk32:k.length=32) (hs: ∀e∈s.ents,e.key.length=32):aD Tryz.prog G 38 [dq s,keyM k] (.int .i64 (jF k s.ents)):=by
 have c1:=wY (G:=G) s.ents hl 76 (keyM k) (fun e=>decide (e.key=k)) (by kernel_rfl) fun e he=>Mh e k (by rw [hs e he,hk32])
 rw [Bn] at c1;have e0:jF k s.ents=posK k (s.ents.map (·.key)) 0:=rfl;rw [← e0] at c1;clear e0 hs;obtain⟨⟨f1,f2,f3,f4,f5,f6,keep,f8,f9,f10,f11,f12⟩,⟨⟨a1,a2⟩,⟨a3,a4⟩,⟨a5,a6⟩,a7,a8⟩,height,time,arr,ents,cache⟩:=s;dsimp only at *;generalize jF k ents=R at *;dsimp only [dq,cfM,appM,lgM] at *;generalize ents.map au=b4 at *;generalize cache.map keyM=b6 at *;try generalize a1.map bd=b1 at *
 try generalize a1.length=d1 at *
 try generalize a3.map bd=b3 at *
 try generalize a3.length=d3 at *
 try generalize a5.map bd=b5 at *
 try generalize a5.length=d5 at *
 refine bf seat Tryz.func38 9 ?_;refine ad ?_;refine bR rfl (fun _ h=>h) rfl (aa c1) [] [(1,1)] ⟨rfl,mm,rfl,⟨rv,EO (.inr ⟨rfl,c₇ 0,rfl,rfl,rfl,rfl⟩),trivial⟩,mm⟩ rfl rfl ?_;refine ad ?_;refine aw ?_;rfl
theorem qO (n:Int):aD Tryz.prog G 98 [.int .i64 n] (.bool (dt n)):=by
 generalize hr:dt n=R;unfold dt at hr;refine bf seat Tryz.func98 9 ?_;refine ad ?_;refine ah rfl rfl ?_ rfl ?_ <;> intro h
 ·have k1:=ot h;refine ad ?_;refine aw ?_;rw [← hr];exact congrArg MV.bool (decide_eq_decide.2 om)
 ·have k1:=oF h;refine ad ?_;refine aw ?_;rw [← hr];exact congrArg MV.bool (decide_eq_false om).symm
theorem ss (raw:List UInt8) (h:raw.length≤1000000):aD Tryz.prog G 51 [.sl raw.length (u8s raw)] (keyM (aT raw)):=by
 have c1:=Nw (G:=G) raw om;have h32:=gy raw;generalize aT raw=k at *;refine bf seat Tryz.func51 5 ?_;refine ad ?_;refine bL (c1) ?_;refine aw ?_;rfl
end
def iS (s:cL) (raw:List UInt8):lp:=let r:=bM s.app raw;if r.code=0∧qE s r.gas=true then { r with code:=22 } else r
theorem Mi (s:cL) (raw:List UInt8) (hc:qC s.cfg) (ha:gz s.app) (hraw:raw.length≤140737488355328):aD Tryz.prog GU 54 [dq s, .sl raw.length (u8s raw)] (jO (iS s raw)):=by
 have c1:=JL s.app raw ha hraw;have hg:=hc.blkG;unfold iS qE;generalize bM s.app raw=r at *;obtain⟨r1,r2,r3,r4,r5⟩:=r;clear hc ha;obtain⟨⟨f1,f2,f3,f4,f5,f6,keep,f8,f9,f10,f11,f12⟩,⟨⟨a1,a2⟩,⟨a3,a4⟩,⟨a5,a6⟩,a7,a8⟩,height,time,arr,ents,cache⟩:=s;dsimp only at *;dsimp only [dq,cfM,appM,lgM,jO] at *;generalize ents.map au=b4 at *;generalize cache.map keyM=b6 at *;try generalize a1.map bd=b1 at *
 try generalize a1.length=d1 at *
 try generalize a3.map bd=b3 at *
 try generalize a3.length=d3 at *
 try generalize a5.map bd=b5 at *
 try generalize a5.length=d5 at *
 by_cases h0:r1=0
 ·subst h0;by_cases h9:f9= -1
  ·subst h9;rw [if_neg sm];refine bf seat Tryz.func54 30 ?_;refine ad ?_;refine bL (c1) ?_;refine aw ?_;rfl
  ·have hcv:aX (IntKind.u64.wrap f9) f9:=aX.mk (bu _ om om);by_cases hh:f9 < (r4:Int)
   ·rw [if_pos (by simp;omega)];refine bf seat Tryz.func54 30 ?_;refine ad ?_;refine bL (c1) ?_;refine ah rfl rfl ?_ rfl ?_ <;> intro h
    ·refine ad ?_;refine ae rfl ?_ ?_ <;> intro h
     ·refine ad ?_;refine aw ?_;rfl
     ·exact absurd (oF h) om
    ·exact absurd (by simpa using h) h9
   ·rw [if_neg (by simp;omega)];refine bf seat Tryz.func54 30 ?_;refine ad ?_;refine bL (c1) ?_;refine ah rfl rfl ?_ rfl ?_ <;> intro h
    ·refine ad ?_;refine ae rfl ?_ ?_ <;> intro h
     ·exact absurd (ot h) om
     ·refine ad ?_;refine aw ?_;rfl
    ·exact absurd (by simpa using h) h9
 ·rw [if_neg (fun h=>h0 h.1)];refine bf seat Tryz.func54 30 ?_;refine ad ?_;refine bL (c1) ?_;refine ah rfl rfl ?_ rfl ?_ <;> intro h
  ·exact absurd (by simpa using h) h0
  refine ad ?_;refine aw ?_;rfl
end
section
variable {G:GS}
attribute [local irreducible] aj aC aG aM aQ vC aY aA
theorem Mj (s:cL) (k:List UInt8) (peer:Int) (hk32:k.length=32) (hl:s.ents.length≤1000000) (hs: ∀e∈s.ents,e.key.length=32∧e.peers.length≤1000000) (hcl:s.cache.length≤1000000) (hck:eF s.cache)
  (hno:jF k s.ents= -1∨∃j,∃hj:j < s.ents.length,jF k s.ents=(j:Int)∧(dt peer=true→peer∈s.ents[j].peers)):aL Tryz.prog G 53 [dq s,keyM k, .int .i64 peer] [] 0 (dq { s with cache:=dK k s.cache s.cfg.cache }) [] 0:=by
 have c1:=yL (G:=G) s.cache s.cfg.cache k hcl hk32 hck
 have c2:=uU (G:=G) { s with cache:=dK k s.cache s.cfg.cache } k hl hk32 fun e he=>(hs e he).1
 have c3:=qO (G:=G) peer
 obtain⟨⟨f1,f2,f3,f4,f5,f6,keep,f8,f9,f10,f11,f12⟩,⟨⟨a1,a2⟩,⟨a3,a4⟩,⟨a5,a6⟩,a7,a8⟩,height,time,arr,ents,cache⟩:=s
 dsimp only at *
 rcases hno with hR | ⟨j,hj,hR,hp⟩
 ·rw [hR] at c2
  clear hR hs hck
  generalize dK k cache f4=P at *
  dsimp only [dq,cfM,appM,lgM] at *
  generalize ents.map au=b4 at *
  generalize cache.map keyM=b6 at *
  generalize P.map keyM=b7 at *
  try generalize a1.map bd=b1 at *
  try generalize a1.length=d1 at *
  try generalize a3.map bd=b3 at *
  try generalize a3.length=d3 at *
  try generalize a5.map bd=b5 at *
  try generalize a5.length=d5 at *
  refine bU seat Tryz.func53 51 ?_
  refine ad ?_
  refine kX (c1) ?_
  refine bL (c2) ?_
  refine ad ?_
  refine aw ?_
  exact en [_]
 ·rw [hR] at c2
  have hel:=dS hj
  have c4:=rO (G:=G) ents[j].peers peer (hs _ (a₂ hj)).2
  clear hR hs hck
  generalize dK k cache f4=P at *
  generalize dt peer=bp at *
  generalize ents[j] =e at *
  obtain⟨e1,e2,e3,e4,e5,e6,e7,e8,e9,e10⟩:=e
  replace hel:db (ents.map au) ents.length (j:Int)=some (.st [keyM e1, .sl e2.length (u8s e2), .str e3, .int .u64 e4, .int .u64 e5, .int .u64 e6, .int .i64 e7, .int .i64 e8, .int .i64 e9, .sl e10.length (e10.map (MV.int .i64))]):=hel
  dsimp only [bS] at c4 hp
  dsimp only [dq,cfM,appM,lgM] at *
  generalize ents.map au=b4 at *
  generalize cache.map keyM=b6 at *
  generalize P.map keyM=b7 at *
  have hel:=al.mk hel
  try generalize a1.map bd=b1 at *
  try generalize a1.length=d1 at *
  try generalize a3.map bd=b3 at *
  try generalize a3.length=d3 at *
  try generalize a5.map bd=b5 at *
  try generalize a5.length=d5 at *
  cases bp with
  | false=>
   refine bU seat Tryz.func53 51 ?_
   refine ad ?_
   refine kX (c1) ?_
   refine bL (c2) ?_
   refine bL (c3) ?_
   refine aw ?_
   exact en [_]
  | true=>
   rw [decide_eq_true (hp rfl)] at c4
   refine bU seat Tryz.func53 51 ?_
   refine ad ?_
   refine kX (c1) ?_
   refine bL (c2) ?_
   refine bL (c3) ?_
   refine bL (c4) ?_
   refine aw ?_
   exact en [_]
theorem RD.stl {q:MV→Bool} {m:FM} {l' l:List MV} (h:Bo q m l' l):RD q m (.st l') (.st l):=by
 obtain⟨h1,h2⟩:=h.get;refine .st h1 fun j x y hx hy=>?_
 obtain⟨y',hy',hd⟩:=h2 hx;rw [hy] at hy';injection hy' with hy'
 subst hy';exact hd
theorem uV (l:List Ent) {i:Nat} (hi:i < l.length) (c j:Nat):(eo l l[i] i l.length c)[j]? =if j=i then some (qN l[i] c) else(l.map au)[j]? :=by
 unfold eo;rw [c₃];rcases Nat.lt_trichotomy j i with h | rfl | h
 ·rw [if_neg om,List.getElem?_append_left (by simp;omega),e₄,d₃ h]
 ·rw [if_pos rfl,c₅ (by simp;omega)];simp [f₆ (Nat.le_of_lt hi)]
 ·rw [if_neg om,c₅ (by simp;omega)];simp only [b₄,b₃,f₆ (Nat.le_of_lt hi)];obtain⟨d,rfl⟩: ∃d,j=i + 1 + d:=⟨j - (i + 1),om⟩
  rw [show i + 1 + d - i=d + 1 by omega,List.getElem?_cons_succ,List.map_drop,e₆]
theorem Mk {m:FM} {e:Ent} {c:Nat} (h:m c=some (lK e.peers)):RD MV.idFree m (au e) (qN e c):=by
 unfold au qN bS;refine .stl (.cons (.same rfl) (.cons (.same rfl) (.cons (.same rfl) (.cons (.same rfl) (.cons (.same rfl) (.cons (.same rfl) (.cons (.same rfl) (.cons (.same rfl) (.cons (.same rfl) (.cons ?_ .nil))))))))));exact RD.row (lK e.peers) h rfl sm (fun x hx=>by obtain⟨y,_,rfl⟩:=d₀.1 hx;rfl)
theorem Bs {m:FM} (s:cL) {i:Nat} (hi:i < s.ents.length) (h0:m 0=some ⟨64,41,false,0,eo s.ents s.ents[i] i s.ents.length 1⟩) (h1:m 1=some (lK s.ents[i].peers)):RD MV.idFree m (dq s) (stE s 0):=by
 refine .stl (.cons (.same rfl) (.cons (.same rfl) (.cons (.same rfl) (.cons (.same rfl) (.cons (.same rfl) (.cons ?_ (.cons (.same rfl) .nil)))))));refine .ms _ h0 rfl (by decide) (by rw [a₆,uR hi (b₀ _)];exact b₀ _) sm fun j x y hx hy=>?_
 rw [a₆,uV _ hi] at hy;by_cases hj:j=i
 ·subst hj;rw [if_pos rfl] at hy;injection hy with hy
  subst hy;rw [List.getElem?_map,a₀ hi] at hx;injection hx with hx
  subst hx;exact Mk h1
 ·rw [if_neg hj,hx] at hy;injection hy with hy
  subst hy;exact .same (im (jd s.ents) j x hx)
theorem JN (l:List Ent) {i:Nat} (hi:i < l.length) (c:Nat) (x:MV):setL (eo l l[i] i l.length c) (0 + i) x=(l.map au).set i x:=by
 rw [setL_eq,a₆];apply f₀;intro j;rw [f₁,f₁,uV _ hi,uR hi (b₀ _),b₄];by_cases h:i=j
 ·subst h;simp [hi]
 ·rw [if_neg h,if_neg h,if_neg (fun e=>h e.symm)]
theorem w6 {σ:Nat→Option Nat} {fz:Fz} {x y:MV} (h:cU σ fz x y): ∀{l:List MV} (i:Nat),MV.idFrees l=true→cU.relVs σ fz (l.set i x) (l.set i y)
 | [],_,_=>trivial
 | a :: l,0,hf=>by
  have hf:(a.idFree && MV.idFrees l)=true:=hf
  rw [c₂] at hf
  exact⟨h,dI _ hf.2⟩
 | a :: l,i + 1,hf=>by
  have hf:(a.idFree && MV.idFrees l)=true:=hf
  rw [c₂] at hf
  have:=dI (σ:=σ) (fz:=fz) [a] (by show(a.idFree && true)=true;rw [hf.1];rfl)
  exact⟨this.1,w6 h i hf.2⟩
theorem Ml (s:cL) (k:List UInt8) (peer:Int) (i:Nat) (hi:i < s.ents.length) (hk32:k.length=32) (hl:s.ents.length≤1000000) (hs: ∀e∈s.ents,e.key.length=32∧e.peers.length≤100000) (hcl:s.cache.length≤1000000) (hck:eF s.cache)
  (hR:jF k s.ents=(i:Int)) (hp:dt peer=true) (hn:peer ∉ s.ents[i].peers):aL Tryz.prog G 53 [stE s 0,keyM k, .int .i64 peer] [(0,⟨64,41,false,0,eo s.ents s.ents[i] i s.ents.length 1⟩),(1,lK s.ents[i].peers)] 2 (dq { s with cache:=dK k s.cache s.cfg.cache,ents:=s.ents.set i { s.ents[i] with peers:=s.ents[i].peers ++ [peer] } }) [] 2:=by
 have c1:=yL (G:=G) s.cache s.cfg.cache k hcl hk32 hck
 have c2:=aa (uU (G:=G) { s with cache:=dK k s.cache s.cfg.cache } k hl hk32 fun e he=>(hs e he).1)
 have c3:=qO (G:=G) peer
 have hse:=hs _ (a₂ hi)
 have c4:=aa (rO (G:=G) s.ents[i].peers peer om)
 have b2:=iR c2 (M0:= [(0,⟨64,41,false,0,eo s.ents s.ents[i] i s.ents.length 1⟩),(1,lK s.ents[i].peers)]) (n0:=2) (args:= [stE { s with cache:=dK k s.cache s.cfg.cache } 0,keyM k]) (.cons (Bs { s with cache:=dK k s.cache s.cfg.cache } hi rfl rfl) (.cons (.same rfl) .nil)) (.one (.same rfl))
 have b4:=iR c4 (M0:= [(0,lK s.ents[i].peers)]) (n0:=1) (args:= [.ms 0 1 0 s.ents[i].peers.length, .int .i64 peer]) (.cons (RD.row (lK s.ents[i].peers) rfl rfl sm (fun x hx=>by obtain⟨y,_,rfl⟩:=d₀.1 hx;rfl)) (.cons (.same rfl) .nil)) (.one (.same rfl))
 rw [decide_eq_false hn] at b4
 dsimp only at b2
 rw [hR] at b2
 clear c2 c4 hR hs hck hn
 have hget:bK (eo s.ents s.ents[i] i s.ents.length 1) (0 + i)=some (qN s.ents[i] 1):=by rw [bF,a₆,uV _ hi,if_pos rfl]
 have hset:=fun x=>JN s.ents hi 1 x
 have hfr:=jd s.ents
 have hml:(s.ents.set i { s.ents[i] with peers:=s.ents[i].peers ++ [peer] }).map au=(s.ents.map au).set i (au { s.ents[i] with peers:=s.ents[i].peers ++ [peer] }):=by rw [e₈]
 have hmn:(s.ents.set i { s.ents[i] with peers:=s.ents[i].peers ++ [peer] }).length=s.ents.length:=List.length_set ..
 have hZ1: ∀{σ:Nat→Option Nat} {fz:Fz},σ 1=some 1→cU.relVs σ fz (eo s.ents s.ents[i] i s.ents.length 1) (eo s.ents s.ents[i] i s.ents.length 1):=fun h=>iH _ _ _ _ h
 have hZ2: ∀{σ:Nat→Option Nat} {fz:Fz} {ρ:Nat→Nat},σ 1=some (ρ 1)→cU.relVs σ fz (eo s.ents s.ents[i] i s.ents.length 1) (renVs ρ (eo s.ents s.ents[i] i s.ents.length 1)):=fun h=>by rw [uS];exact iH _ _ _ _ h
 rw [hp] at c3
 generalize s.ents.set i { s.ents[i] with peers:=s.ents[i].peers ++ [peer] }=W at *
 generalize eo s.ents s.ents[i] i s.ents.length 1=Z at *
 generalize dK k s.cache s.cfg.cache=P at *
 generalize s.ents[i] =e at *
 obtain⟨e1,e2,e3,e4,e5,e6,e7,e8,e9,e10⟩:=e
 unfold lK qN at *
 dsimp only [bS] at *
 have hget:=al.mk hget
 refine bU seat Tryz.func53 51 ?_
 refine ad ?_
 refine kX (c1) ?_
 refine bR rfl (fun _ h=>h) rfl (b2) [(0,0),(1,1)] [] ⟨rfl,trivial,rfl,lm, .inr ⟨0,_,rfl,rfl,rfl,rfl, .inl rfl, .inl rfl, .inr (hZ1 rfl)⟩,mm⟩ rfl rfl ?_
 refine Ab [(18, .int .i64 i),(6, .ptr 4 25 0 0 []),(3, .ptr 2 25 0 0 []),(2, .int .i64 peer)] [(0,⟨64,41,false,0,Z⟩),(1,⟨3,1,true,0,e10.map (MV.int .i64)⟩),(2,⟨42,25,false,0,[stE { s with cache:=P } 0]⟩),(4,⟨42,25,false,0,[pH]⟩)] [] trivial rfl mm ⟨.inr ⟨0,_,rfl,rfl,rfl,rfl, .inl rfl, .inl rfl, .inr (hZ2 rfl)⟩,mm⟩ ?_
 refine ad ?_
 refine bL (c3) ?_
 refine yc (b4) [(0,1)] ?_
 refine ad ?_
 refine av [ag 0,ag 1,ag 2,ag 3,ag 4,ag 5,ag 6,ag 7,ag 8,ag 9,ag 10,ag 11,ag 12,ag 13,ag 14] ?_
 refine ad ?_
 refine bQ rfl (by intro R hR;refine dZ hR ?_;(refine a₅ (b₀ _) ?_;refine⟨_,rfl,?_⟩;refine a₅ ⟨sm,aF (by kernel_rfl) pf⟩ ?_;refine⟨(e10 ++ [peer]).map (MV.int .i64),sv (by simp;rfl),(e10 ++ [peer]).length,sv pf,?_⟩);exact hR) rfl ?_
 refine BI ?_
 have hfw:=jd W
 refine iW [(6, .ptr 4 25 0 0 [])] [(0,⟨64,41,true,0,W.map au⟩),(4,⟨42,25,false,0,[stE { s with cache:=P } 0]⟩)] 5 ⟨[(4,4)],[(45,(e10 ++ [peer]).length)],rfl,mm,rfl,⟨⟨_,rfl,rv⟩,trivial⟩,⟨.inr ⟨0,_,rfl,rfl,rfl,rfl, .inr (.inr ⟨rfl,rfl,hfw⟩), .inl rfl, .inr ?_⟩,mm⟩⟩ ?_
 ·show cU.relVs _ _ (W.map au) (setL Z (0 + i) _)
  rw [hset,hml]
  refine w6 ?_ i hfr
  unfold au
  dsimp only
  exact .inr ⟨_,rfl,⟨rfl,rfl⟩, .inl rfl,⟨rfl,rfl⟩,⟨rfl,rfl⟩,⟨rfl,rfl⟩,⟨rfl,rfl⟩,⟨rfl,rfl⟩,⟨rfl,rfl⟩,⟨rfl,rfl⟩, .inr ⟨rfl,rfl,rfl,d₄ (a₆ _),bV _ _⟩,trivial⟩
 refine ad ?_
 refine aw ?_
 refine⟨[_],[],[(0,W.length)],rfl,rfl,?_,rfl,⟨?_,trivial⟩,?_⟩
 ·exact⟨by show W.length≤(W.map au).length;simp,trivial⟩
 ·have hms:MV.ms 0 41 0 s.ents.length= .ms 0 41 0 W.length:=by rw [hmn]
  refine .inr ⟨_,rfl, .inl ⟨rfl,rfl⟩, .inl ⟨rfl,rfl⟩,⟨rfl,rfl⟩,⟨rfl,rfl⟩,⟨rfl,rfl⟩, .inr ?_, .inl rfl,trivial⟩
  show No _ (.ms 0 41 0 s.ents.length) _ _
  rw [hms]
  exact⟨rfl,rfl,rfl,d₄ (a₆ _),bV _ _⟩
 ·exact mm
end
section
attribute [local irreducible] aj aC aG aM aQ vC aY aA
theorem Od {G:GS} (e:Ent) (ks:List (List UInt8)) (hl:ks.length≤1000000) (h:e.key.length=32) (hs:eF ks):aD Tryz.prog G 104 [au e, .ep (.sl ks.length (ks.map keyM)) 0 []] (.bool (decide (e.key∈ks))):=by
 have c1:=yK (G:=G) ks e.key hl h hs;generalize decide (e.key∈ks)=b at *;obtain⟨e1,e2,e3,e4,e5,e6,e7,e8,e9,e10⟩:=e;unfold au;dsimp only at *;refine bf seat Tryz.func104 8 ?_;refine ad ?_;refine bL (c1) ?_;refine aw ?_;rfl
theorem De (ks:List (List UInt8)) (c:List (List UInt8)) {k:Nat} (hk:k < ks.length):(ks.take (k + 1)).foldl (fun c k=>cR k c) c=cR ks[k] ((ks.take k).foldl (fun c k=>cR k c) c):=by
 rw [a₁ hk,List.foldl_append];rfl
def MZ (s:cL) (key raw:List UInt8) (peer:Int) (r:lp):cL:={ s with ents:=s.ents ++ [AT s key raw peer r],arr:=s.arr + 1 }
theorem JO (s:cL) (raw:List UInt8) (peer:Int) (r:lp) (ks:List (List UInt8)) (hraw:raw.length≤1000000) (ha:gz s.app) (hl:s.ents.length≤100000) (hs: ∀e∈s.ents,e.key.length=32) (hcl:s.cache.length≤1000000) (hck:eF s.cache) (hks:eF ks) (hkl:ks.length≤1000000) (harr:0≤s.arr∧s.arr < 4611686018427387904) :
  aL Tryz.prog GU 56 [stE s 0, .sl raw.length (u8s raw), .int .i64 peer,jO r, .sl ks.length (ks.map keyM)] [(0,kC s.ents)] 1 (dq (kB s (aT raw) raw peer r ks)) [] 1:=by
 have c1:=Ob (G:=GU) s.ents om 104 (.sl ks.length (ks.map keyM)) (fun e=>decide (e.key∈ks)) (by kernel_rfl) fun e he=>Od e ks hkl (hs e he) hks
 rw [show (s.ents.filter fun e=> !decide (e.key∈ks))=s.ents.filter (fun e=>decide (e.key ∉ ks)) by congr 1;funext e;simp] at c1
 have hFl:(s.ents.filter fun e=>decide (e.key ∉ ks)).length≤s.ents.length:=c₉ _ _
 have c2:=ss (G:=GU) raw hraw
 have c3:=uk (G:=GU) raw om
 have c4:=qO (G:=GU) peer
 have c5:=GW s.app raw ha om
 have hT:kB s (aT raw) raw peer r ks=MZ { s with ents:=s.ents.filter (fun e=>decide (e.key ∉ ks)),cache:=ks.foldl (fun c k=>cR k c) s.cache,app:=fq s.app raw } (aT raw) raw peer r:=rfl
 rw [hT]
 clear hT
 generalize hF:s.ents.filter (fun e=>decide (e.key ∉ ks))=F at *
 generalize aT raw=key at *
 unfold kC at *
 refine bU seat Tryz.func56 71 ?_
 refine ad ?_
 refine bR rfl (fun _ h=>h) rfl (c1) [(0,0)] [(3,1)] ⟨rfl,mm,rfl,⟨.inr ⟨_,rfl,rfl⟩,EO (.inr ⟨rfl,c₇ 0,rfl,rfl,rfl,rfl⟩),trivial⟩,mm⟩ rfl rfl ?_
 refine BI ?_
 refine iW ([(1, .sl raw.length (u8s raw)),(2, .int .i64 peer),(5, .ptr 1 25 0 0 []),(8, .ptr 2 5 0 0 []),(9, .ptr 3 1 0 0 []),(10, .ptr 4 25 0 0 [])]) ([(0,⟨64,41,true,0,F.map au⟩),(1,⟨42,25,false,0,[stE { s with ents:=F } 0]⟩),(2,⟨105,5,false,0,[jO r]⟩),(3,⟨40,1,false,1,[.sl ks.length (ks.map keyM)]⟩),(4,⟨42,25,false,0,[pH]⟩)]) (5) (vm [(1,_),(2,_),(3,_),(4,_)] []) ?_
 clear c1
 refine ad ?_
 refine ar (Nat×List (List UInt8)) (fun x=> [(21, .int .i64 x.1),(20, .int .i64 ks.length),(19, .sl ks.length (ks.map keyM)),(1, .sl raw.length (u8s raw)),(2, .int .i64 peer),(5, .ptr 1 25 0 0 []),(8, .ptr 2 5 0 0 []),(10, .ptr 4 25 0 0 [])]) (fun x=> [(0,⟨64,41,true,0,F.map au⟩),(1,⟨42,25,false,0,[stE { s with ents:=F,cache:=x.2 } 0]⟩),(2,⟨105,5,false,0,[jO r]⟩),(4,⟨42,25,false,0,[pH]⟩)]) 5 (fun x=>x.1≤ks.length∧eF x.2∧x.2.length≤1000000∧x.2=(ks.take x.1).foldl (fun c k=>cR k c) s.cache) (fun x=>ks.length - x.1) (0,s.cache) ⟨b₂ _,hck,hcl,rfl⟩ (by dsimp only;exact(vm [(1,_),(2,_),(4,_)] [])) ?_
 rintro⟨k,c⟩ ⟨hk,hc1,hc2,hc3⟩
 try dsimp only
 dsimp only at hk hc1 hc2 hc3
 refine ad ?_
 refine ae rfl ?_ ?_ <;> intro h
 ·have hk':k < ks.length:=by have:=ot h;omega
  have hel:=al.mk (lz hk')
  have hkk:=hks _ (a₂ hk')
  have hnx:=De ks s.cache hk'
  rw [← hc3] at hnx
  generalize ks[k] =q at *
  have d1:=EN (G:=GU) c q hc2 hkk hc1
  have hp1:eF (cR q c):=fun x hx=>hc1 x (List.mem_filter.1 hx).1
  have hp2:(cR q c).length≤c.length:=c₉ _ _
  generalize cR q c=c' at *
  refine ad ?_
  refine kX (d1) ?_
  exact⟨(k + 1,c'),⟨dm,hp1,dm,hnx.symm⟩,dm,(by dsimp only;exact(vm [(1,_),(2,_),(4,_)] []))⟩
 ·have hk9:k=ks.length:=by have:=oF h;omega
  rw [hk9,c₃] at hc3
  rw [← hc3]
  clear hc3
  refine ad ?_
  refine yv (c5) ?_
  refine BI ?_
  generalize fq s.app raw=a3 at *
  refine iW ([(1, .sl raw.length (u8s raw)),(2, .int .i64 peer),(5, .ptr 1 25 0 0 []),(8, .ptr 2 5 0 0 []),(10, .ptr 4 25 0 0 [])]) ([(0,⟨64,41,true,0,F.map au⟩),(1,⟨42,25,false,0,[stE { s with ents:=F,cache:=c,app:=a3 } 0]⟩),(2,⟨105,5,false,0,[jO r]⟩),(4,⟨42,25,false,0,[pH]⟩)]) (5) (vm [(1,_),(2,_),(4,_)] []) ?_
  have hra:0≤({ s with ents:=F,cache:=c,app:=a3 }:cL).arr∧({ s with ents:=F,cache:=c,app:=a3 }:cL).arr < 4611686018427387904:=harr
  have hrl:({ s with ents:=F,cache:=c,app:=a3 }:cL).ents=F:=rfl
  generalize ({ s with ents:=F,cache:=c,app:=a3 }:cL)=s3 at *
  subst hrl
  unfold MZ AT
  generalize dt peer=bp at *
  refine ad ?_
  refine av [ag 0,da 1,ag 2,da 3,ag 4,ag 5,ag 6,ag 7,ag 8,ag 9,ag 10,ag 11,ag 12,ag 13,ag 14,ag 15,ag 16,ag 17,ag 18,ag 19,ag 20] ?_
  refine ad ?_
  refine du (c2) ?_
  refine jk (c3) ?_
  refine yv (c4) ?_
  refine si (List Int) (fun ps=> [(5, .ptr 1 25 0 0 []),(10, .ptr 4 25 0 0 []),(13, .ptr 5 41 0 0 [])]) (fun ps=> [(0,⟨64,41,true,0,s3.ents.map au⟩),(1,⟨42,25,false,0,[stE s3 0]⟩),(4,⟨42,25,false,0,[pH]⟩),(5,⟨64,41,false,0,[au ⟨key,raw,r.sender,r.seq,r.gas,r.prio,s3.height,s3.time,s3.arr,ps⟩]⟩)]) (fun _=>6) (fun ps=>ps=if bp=true then [peer] else []) (fun JQ hj=>?_) (fun ps hps=>?_)
  ·refine ad ?_
   refine ae rfl ?_ ?_ <;> intro h
   ·refine ad ?_
    exact hj.nrm [peer] (by rw [if_pos h]) (vm [(1,_),(4,_),(5,_)] [(28,1)])
   ·refine ad ?_
    exact hj.nrm [] (by rw [if_neg (by rw [h];simp)]) (vm [(1,_),(4,_),(5,_)] [])
  ·rw [← hps]
   generalize hen:(⟨key,raw,r.sender,r.seq,r.gas,r.prio,s3.height,s3.time,s3.arr,ps⟩:Ent)=en
   obtain⟨W,hW⟩: ∃W,W=s3.ents ++ [en] :=⟨_,rfl⟩
   have hWl:W.length=s3.ents.length + 1:=by rw [hW];simp
   have hW2:W.map au=s3.ents.map au ++ [au en] :=by rw [hW];simp
   rw [← hW]
   clear hW hen
   try dsimp only
   refine ad ?_
   refine bc rfl rfl (by intro R hR;refine dZ hR ?_;(refine a₅ (b₀ _) ?_;refine⟨_,rfl,?_⟩;refine a₅ ⟨sm,aF (by kernel_rfl) pf⟩ ?_;refine⟨W.map au,sv (by rw [hW2];rfl),W.length,sv pf,?_⟩);exact hR) rfl ?_
   refine ad ?_
   refine aw ?_
   refine⟨[_],[],[(10,W.length)],rfl,rfl,?_,rfl,⟨?_,trivial⟩,?_⟩
   ·exact⟨by show W.length≤(W.map au).length;simp,trivial⟩
   ·exact .inr ⟨_,rfl, .inl ⟨rfl,rfl⟩, .inl ⟨rfl,rfl⟩,⟨rfl,rfl⟩,⟨rfl,rfl⟩,⟨rfl,rfl⟩, .inr ⟨rfl,rfl,rfl,d₄ (a₆ _),bV _ _⟩, .inl rfl,trivial⟩
   ·exact mm
end
section
abbrev TE:=Ent×Nat
def kE (x y:TE):Prop:=x.1.prio < y.1.prio∨(x.1.prio=y.1.prio∧(y.1.order < x.1.order∨(x.1.order=y.1.order∧x.2 < y.2)))
instance (x y:TE):Decidable (kE x y):=by unfold kE;infer_instance
theorem dF {x y z:TE} (h:kE x y) (k:kE y z):kE x z:=by unfold kE at *;omega
theorem gY {x y:TE} (h:kE x y) (k:kE y x):False:=by unfold kE at *;omega
theorem befE_t {x y:TE} (h:eC x.1 y.1=true):kE x y:=by unfold eC at h;have:=ot h;unfold kE;omega
theorem mK {x y:TE} (h:eC x.1 y.1=false) (hn:y.2 < x.2):kE y x:=by unfold eC at h;have:=oF h;unfold kE;omega
theorem uW {x y:TE} (hn:y.2 < x.2):(eC x.1 y.1=true)↔kE x y:=
 ⟨befE_t,fun h=>by
  cases hb:eC x.1 y.1 with
  | true=>rfl
  | false=>exact (gY h (mK hb hn)).elim⟩
def vU (x:TE):List TE→List TE
 | [] => [x]
 | y :: l=>if kE x y then x :: y :: l else y :: vU x l
def eK:List TE→List TE
 | [] => []
 | x :: l=>vU x (eK l)
abbrev gH (l:List TE):Prop:=l.Pairwise kE
abbrev dL (l:List TE):Prop:=l.Pairwise fun x y=>x.2≠y.2
theorem qP (x:TE): ∀l,(vU x l).Perm (x :: l)
 | [] => .refl _
 | y :: l=>by
  unfold vU
  split
  ·exact .refl _
  ·exact((qP x l).cons y).trans (.swap x y l)
theorem bt: ∀l,(eK l).Perm l
 | [] => .refl _
 | x :: l=>(qP x (eK l)).trans ((bt l).cons x)
theorem Bu (x:TE): ∀l,gH l→(∀y∈l,x.2≠y.2)→gH (vU x l)
 | [],_,_=>by simp [vU]
 | y :: l,h,hn=>by
  obtain⟨h1,h2⟩:=b₁.1 h
  unfold vU
  split
  ·rename_i hlt
   exact b₁.2 ⟨fun z hz=>by
    rcases b₈.1 hz with rfl | hz
    ·exact hlt
    ·exact dF hlt (h1 z hz),h⟩
  ·rename_i hlt
   refine b₁.2 ⟨fun z hz=>?_,Bu x l h2 fun z hz=>hn z (by simp [hz])⟩
   rcases b₈.1 ((qP x l).mem_iff.1 hz) with rfl | hz
   ·have:=hn y sm
    unfold kE at hlt ⊢
    omega
   ·exact h1 z hz
theorem jJ: ∀l,dL l→gH (eK l)
 | [],_=> .nil
 | x :: l,h=>by
  obtain⟨h1,h2⟩:=b₁.1 h
  exact Bu x _ (jJ l h2) fun y hy=>h1 y ((bt l).mem_iff.1 hy)
theorem w7: ∀{l1 l2:List TE},l1.Perm l2→gH l1→gH l2→l1=l2
 | [],l2,h,_,_=>h.nil_eq
 | x :: l1,[],h,_,_=>h.eq_nil
 | x :: l1,y :: l2,h,h1,h2=>by
  obtain⟨a1,a2⟩:=b₁.1 h1
  obtain⟨b1,b2⟩:=b₁.1 h2
  by_cases hxy:x=y
  ·subst hxy
   rw [w7 (List.Perm.cons_inv h) a2 b2]
  ·have hx:x∈l2:=by
    rcases b₈.1 (h.mem_iff.1 (e₉ ..)) with h | h
    ·exact absurd h hxy
    ·exact h
   have hy:y∈l1:=by
    rcases b₈.1 (h.mem_iff.2 (e₉ ..)) with h | h
    ·exact absurd h.symm hxy
    ·exact h
   exact(gY (a1 y hy) (b1 x hx)).elim
theorem dL.perm {l1 l2:List TE} (h:l1.Perm l2) (hn:dL l1):dL l2:=h.pairwise hn fun hxy=>Ne.symm hxy
theorem qQ {s l:List TE} (hp:s.Perm l) (hs:gH s) (hn:dL l):s=eK l:=w7 (hp.trans (bt l).symm) hs (jJ l hn)
theorem w9 {s l:List TE} (hp:s.Perm l) (hn:dL l):eK s=eK l:=qQ ((bt s).trans hp) (jJ s (hn.perm hp.symm)) hn
def Df {α:Type} (t:List α) (i j:Nat):List α:=match t[i]?,t[j]? with
 | some x,some y=>(t.set i y).set j x
 | _,_=>t
theorem Oe {α:Type} {t:List α} {i j:Nat} (hi:i < t.length) (hj:j < t.length):Df t i j=(t.set i t[j]).set j t[i] :=by
 unfold Df;simp [hi,hj]
theorem EP {α:Type} (X:List α) (a b:α) (Z:List α):(X ++ a :: Z).set X.length b=X ++ b :: Z:=by
 rw [List.set_append_right _ _ (b₀ _),e₇,List.set_cons_zero]
theorem Mm {α:Type} (X:List α) (a:α) (Y:List α) (b:α) (Z:List α):Df (X ++ a :: (Y ++ b :: Z)) X.length (X.length + 1 + Y.length)=X ++ b :: (Y ++ a :: Z):=by
 have h1:(X ++ a :: (Y ++ b :: Z))[X.length]? =some a:=sm;have h2:(X ++ a :: (Y ++ b :: Z))[X.length + 1 + Y.length]? =some b:=by
  rw [c₅ om,show X.length + 1 + Y.length - X.length=Y.length + 1 by omega];simp
 unfold Df;rw [h1,h2]
 show((X ++ a :: (Y ++ b :: Z)).set X.length b).set (X.length + 1 + Y.length) a=_
 rw [EP];have:=EP (X ++ b :: Y) b a Z;simp only [a₇,f₃,a₈,f₄] at this;rw [← this];congr 1;omega
theorem mL {α:Type} {X Y Z:List α} {a b:α} {i j:Nat} (hi:X.length=i) (hj:i + 1 + Y.length=j):Df (X ++ a :: (Y ++ b :: Z)) i j=X ++ b :: (Y ++ a :: Z):=by
 subst hi;subst hj;exact Mm ..
theorem Bv {α:Type} (t:List α) (i j:Nat):Df t i j=Df t j i:=by
 unfold Df;cases hi:t[i]? with
 | none=>cases hj:t[j]? <;> rfl
 | some x=>
  cases hj:t[j]? with
  | none=>rfl
  | some y=>
   show(t.set i y).set j x=(t.set j x).set i y
   by_cases h:i=j
   ·subst h;rw [hi] at hj;injection hj with hj
    subst hj;rfl
   ·rw [List.set_comm _ _ h]
theorem Mn {α:Type} (l:List α) {k:Nat} (h:k≤l.length): ∃A B,l=A ++ B∧A.length=k:=⟨l.take k,l.drop k,(a₉ k l).symm,by simp [h]⟩
theorem Qd {α:Type} (l:List α) {k:Nat} (h:k < l.length): ∃A a B,l=A ++ a :: B∧A.length=k:=⟨l.take k,l[k],l.drop (k + 1),by rw [List.getElem_cons_drop,a₉],by simp;omega⟩
theorem Po {α:Type} (l:List α) {k:Nat} (h:l.length=k + 1): ∃A a,l=A ++ [a] ∧A.length=k:=by
 obtain⟨A,a,B,rfl,hA⟩:=Qd l (k:=k) om;have:B= [] :=b₅.1 (by simp at h;omega);subst this;exact⟨A,a,rfl,hA⟩
def tag:Nat→List Ent→List TE
 | _,[] => []
 | k,e :: l=>(e,k) :: tag (k + 1) l
theorem tag_len: ∀(k:Nat) (l:List Ent),(tag k l).length=l.length
 | _,[] =>rfl
 | k,_ :: l=>by simp [tag,tag_len]
theorem ER: ∀(k:Nat) (l:List Ent),(tag k l).map (·.1)=l
 | _,[] =>rfl
 | k,e :: l=>by simp [tag,ER]
theorem Dg: ∀(k:Nat) (l:List Ent),∀x∈tag k l,k≤x.2
 | _,[],_,h=>by simp [tag] at h
 | k,e :: l,x,h=>by
  rcases b₈.1 h with rfl | h
  ·exact b₀ _
  ·have:=Dg (k + 1) l x h;omega
theorem JP: ∀(k:Nat) (l:List Ent),(tag k l).Pairwise fun x y=>x.2 < y.2
 | _,[] => .nil
 | k,_e :: l=>b₁.2 ⟨fun x hx=>Dg (k + 1) l x hx,JP (k + 1) l⟩
theorem Bw (e:Ent) (k:Nat): ∀(l:List TE),(∀y∈l,k < y.2)→(vU (e,k) l).map (·.1)=oi e (l.map (·.1))
 | [],_=>rfl
 | y :: l,h=>by
  have hk:=h y sm
  unfold vU
  rw [List.map_cons,oi]
  cases hb:eC y.1 e with
  | true=>
   have:kE y (e,k):=befE_t (x:=y) (y:=(e,k)) hb
   rw [if_neg fun h=>gY h this,List.map_cons,Bw e k l fun z hz=>h z (by simp [hz])]
   rfl
  | false=>
   have:kE (e,k) y:=mK (x:=y) (y:=(e,k)) hb hk
   rw [if_pos this];rfl
theorem yN: ∀(k:Nat) (l:List Ent),(eK (tag k l)).map (·.1)=Gd l
 | _,[] =>rfl
 | k,e :: l=>by
  show(vU (e,k) (eK (tag (k + 1) l))).map (·.1)=oi e (Gd l)
  rw [Bw e k _ fun y hy=>Dg (k + 1) l y ((bt _).mem_iff.1 hy),yN]
theorem kD {l:List TE} (h:l.Pairwise fun x y=>x.2 < y.2):dL l:=h.imp fun h=>Nat.ne_of_lt h
end
section
open Go.RowKit Go.Lib
variable {G:GS}
def ES (x:TE):MV:=au x.1
def Mo (t:List TE):MB:=⟨64,41,true,0,t.map ES⟩
def aV (n:Nat) (t:List TE):VM:= [(0,⟨39,1,false,0,[.ms 1 41 0 n]⟩),(1,Mo t)]
noncomputable abbrev Dh (t:Nat):MV:= .gp Tryz.prog.globals.size t
theorem JR (t:List TE) {k:Nat} (hk:k < t.length):bK (t.map ES) k=some (au t[k].1):=by rw [bF];simp [hk,ES]
theorem Mp (t:List TE) {k:Nat} (e:TE):setL (t.map ES) k (au e.1)=(t.set k e).map ES:=by rw [setL_eq,List.map_set];rfl
theorem JS (M:VM) (c:Nat) (b:MB):aP (VM.get M) c b=VM.get ((c,b) :: M):=by
 funext x
 show(if x=c then some b else VM.get M x)=bif d₈ c x then some b else VM.get M x
 by_cases h:x=c
 ·subst h;rw [Nat.beq_refl x];simp
 ·have:d₈ c x=false:=by
   rw [← Bool.not_eq_true];intro h2;exact h (c₈ h2).symm
  simp [h,this]
theorem JT (n:Nat) (t:List TE) {k:Nat} (e:TE):Dl.appF 2 (.upd 1 ((t.set k e).map ES)) (VM.get (aV n t))=VM.get (aV n (t.set k e)):=by
 have h:Dl.appF 2 (.upd 1 ((t.set k e).map ES)) (VM.get (aV n t))=aP (VM.get (aV n t)) 1 (Mo (t.set k e)):=rfl;rw [h];funext x
 match x with
 | 0=>simp [aP,VM.get,aV]
 | 1=>rfl
 | x + 2=>rfl
variable {w:World} {P:bE} {adr:er}
theorem Bx (n:Nat) (t:List TE) {k g:Nat} (hk:k < t.length) (hg:adr 1=some g) (hI:aU w P adr (VM.get (aV n t))) :
  ∃v,(loadVar 64 ⟨g,k * 41 + 0,none⟩).run Tryz.prog w= .ok v w∧aJ w P adr (au t[k].1) v:=by
 obtain⟨r,v,hK,hrun,hrep⟩:=sM (Pg:=Tryz.prog) (T:=tab) (K:=fun x=>x=(au t[k].1, .none)) (t:=64) (p:= .ptr 1 41 k 0 []) (m:=VM.get (aV n t)) seat.tab ⟨_,JR t hk,_,rfl,rfl⟩ (.val [_] (.ptr g hg)) hI
 injection hK with hK
 subst hK
 exact⟨v,hrun,hrep⟩
theorem xa (n:Nat) (t:List TE) (e:TE) {k g:Nat} {v:Value} (hk:k < t.length) (hg:adr 1=some g) (hI:aU w P adr (VM.get (aV n t))) (hv:aJ w P adr (au e.1) v) :
  ∃w',(storeVar 64 ⟨g,k * 41 + 0,none⟩ v).run Tryz.prog w= .ok () w'∧aU w' P adr (VM.get (aV n (t.set k e)))∧bj w w' P P adr adr∧bo (fun b=> ∃c,adr c=some b) w w':=by
 obtain⟨δ,w',hK,hrun,h1,h2,h3⟩:=sN (Pg:=Tryz.prog) (T:=tab) (K:=fun x=>x=(.undef, .upd 1 ((t.set k e).map ES))) (t:=64) (p:= .ptr 1 41 k 0 []) (q:=au e.1) (m:=VM.get (aV n t)) seat.tab ⟨b₂ _,_,JR t hk,_,rfl,_,congrArg some (Mp t e),rfl⟩ (.val [_] (.ptr g hg)) hv hI 2
 injection hK with _ hK
 subst hK
 rw [JT] at h1
 exact⟨w',hrun,h1,h2,h3⟩
theorem yO (n:Nat) (t:List TE) (ht:t.length=n) (i j:Nat) (hi:i < n) (hj:j < n):BV Tryz.prog G 214 [.int .i64 i, .int .i64 j, .ms 1 41 0 n,Dh 64] (aV n t) 2 (.tup []) (aV n (Df t i j)) 2:=by
 subst ht;intro w P adr vals hg hI hn hL hargs;cases hargs with | cons a1 hargs=>cases hargs with | cons a2 hargs=>cases hargs with | cons a3 hargs=>cases hargs with | cons a4 hargs=>
 cases hargs;have e1:=a1.int_;have e2:=a2.int_;have e4:=a4.gp_;subst e1 e2 e4;rcases a3.ms_ with ⟨_,_,h0⟩ | ⟨g,o,cap,h1,rfl,h2,h3,h4,_⟩
 ·omega
 have h2:o=0:=by simpa using h2 (.inr rfl)
 subst h2;obtain⟨x,lx,rx⟩:=Bx _ t hi h1 hI;obtain⟨y,ly,ry⟩:=Bx _ t hj h1 hI;obtain⟨w1,s1,i1,k1,c1⟩:=xa _ t t[j] hi h1 hI ry;obtain⟨w2,s2,i2,k2,c2⟩:=xa _ (t.set i t[j]) t[i] (k:=j) (by simpa using hj) h1 i1 (rx.keep k1);rw [← Oe hi hj] at i2;refine⟨.tuple #[],w2,?_,_,rfl,P,adr,i2, .tup [] rfl (fun j m u h=>by simp at h),k1.trans k2,fun _ _=>rfl,hn,fun c g hc=> .inr ⟨c,hc⟩,fun b o ho=> .inl ho,c1.step c2 fun b h=> .inl h⟩;have hf:(callFunc 214 #[.int .i64 i, .int .i64 j, .slice (some ⟨g,0,none⟩) t.length cap,typeHandle Tryz.prog 64]).run Tryz.prog w=_:=
  run_callFunc_extern Tryz.func214 (by kernel_rfl) (by kernel_rfl) (by kernel_rfl) (e:=Extern.ReflectliteSwapper.swap false) (by kernel_rfl) _ w
 refine hf.trans ?_;have i0: ¬ ((i:Int) < 0):=om;have i1: ¬ ((i:Int) ≥ t.length):=om;have j0: ¬ ((j:Int) < 0):=om;have j1: ¬ ((j:Int) ≥ t.length):=om;have hs: ∀w,(sizeOf 64).run Tryz.prog w= .ok 41 w:=fun w=>by kernel_rfl
 simp only [Nat.add_zero] at lx ly s1 s2;have p1:(⟨g,0,none⟩:Addr).add (i * 41)=⟨g,i * 41,none⟩:=by simp [Addr.add_lit]
 have p2:(⟨g,0,none⟩:Addr).add (j * 41)=⟨g,j * 41,none⟩:=by simp [Addr.add_lit]
 rw [rl_swap];simp [i0,i1,j0,j1,Extern.Rtype.ofHandle,handleType,typeHandle,Extern.ReflectliteSwapper.exchange,hs,p1,p2,lx,ly,s1,s2,Result.andThen]
end
section
variable {G:GS}
theorem JU (t:List TE) {k:Nat} (hk:k < t.length):bK (t.map ES) (0 + k)=some (au t[k].1):=by rw [Nat.zero_add];exact JR t hk
theorem Of (n:Nat) (t:List TE) (ht:t.length=n) (i j:Nat) (hi:i < n) (hj:j < n):aL Tryz.prog G 144 [.int .i64 i, .int .i64 j, .ptr 0 1 0 0 []] (aV n t) 2 (.bool (eC (t[i]'om).1 (t[j]'om).1)) (aV n t) 2:=by
 have hi':i < t.length:=om;have hj':j < t.length:=om;unfold eC;have r1:=al.mk (JU t hi');have r2:=al.mk (JU t hj');generalize t[i].1=x at *;generalize t[j].1=y at *;obtain⟨x1,x2,x3,x4,x5,x6,x7,x8,x9,x10⟩:=x;obtain⟨y1,y2,y3,y4,y5,y6,y7,y8,y9,y10⟩:=y;unfold au at r1 r2;unfold aV Mo at *;dsimp only at *;generalize t.map ES=Z at *;refine bU seat Tryz.func144 39 ?_;refine ad ?_;refine av [ag 0,ag 1,ag 2,ag 3,ag 4,ag 5,ag 6,ag 7,ag 8,ag 9,ag 10] ?_;refine ad ?_;refine ae rfl ?_ ?_ <;> intro h
 ·have hp:x6≠y6:=by simpa using h
  refine ad ?_;refine av [ag 0,ag 1,ag 2,ag 3,ag 4,ag 5,ag 6,ag 7,ag 8,ag 9,ag 10,ag 11] ?_;refine ad ?_;refine⟨[_],[],[],rfl,rfl,trivial,rfl,⟨?_,trivial⟩,?_⟩
  ·exact⟨congrArg MV.bool (decide_eq_decide.2 om),rfl⟩
  ·exact mm
 ·have hp:x6=y6:=by simpa using h
  refine ad ?_;refine av [ag 0,ag 1,ag 2,ag 3,ag 4,ag 5,ag 6,ag 7,ag 8,ag 9,ag 10,ag 11] ?_;refine ad ?_;refine⟨[_],[],[],rfl,rfl,trivial,rfl,⟨?_,trivial⟩,?_⟩
  ·exact⟨congrArg MV.bool (decide_eq_decide.2 om),rfl⟩
  ·exact mm
noncomputable abbrev dX (n:Nat):MV:= .st [.fn 144 [.ptr 0 1 0 0 []], .fn 214 [.ms 1 41 0 n,Dh 64]]
theorem rel_data {l:List (Nat×Nat)} {fz:Fz} {n:Nat}:cU (cA 2 l) fz (dX n) (dX n):= .inr ⟨_,rfl, .inr ⟨_,rfl,⟨0,rfl,rfl⟩,trivial⟩, .inr ⟨_,rfl, .inr ⟨1,rfl,rfl⟩,⟨rfl,rfl⟩,trivial⟩,trivial⟩
theorem nF {p:Prop} (h:p:=by (repeat(first | exact trivial | refine⟨.inr ⟨_,_,rfl,rfl,rfl,rfl, .inl rfl, .inl rfl, .inl ⟨rfl,rfl⟩⟩,?_⟩ | refine⟨.inr ⟨_,_,rfl,rfl,rfl,rfl, .inl rfl, .inl rfl, .inr ⟨rel_data,trivial⟩⟩,?_⟩ | refine⟨.inr ⟨_,_,rfl,rfl,rfl,rfl, .inl rfl, .inl rfl, .inr ⟨rv,trivial⟩⟩,?_⟩));first | done | fail):p:=h
theorem GY (P A Q B S:List TE) (h:B.length=A.length) (i:Nat) (hi:i < A.length) :
  Df (P ++ ((B.take i ++ A.drop i) ++ (Q ++ ((A.take i ++ B.drop i) ++ S)))) (P.length + i) (P.length + A.length + Q.length + i)=P ++ ((B.take (i + 1) ++ A.drop (i + 1)) ++ (Q ++ ((A.take (i + 1) ++ B.drop (i + 1)) ++ S))):=by
 have hb:i < B.length:=om
 have e1:=a₄ hi
 have e2:=a₄ hb
 have:=mL (X:=P ++ B.take i) (Y:=A.drop (i + 1) ++ (Q ++ A.take i)) (Z:=B.drop (i + 1) ++ S) (a:=A[i]) (b:=B[i]) (i:=P.length + i) (j:=P.length + A.length + Q.length + i) (by simp;omega) (by simp;omega)
 rw [e1,e2,a₁ hi,a₁ hb]
 simp only [a₈,f₄,c₀] at this ⊢
 exact this
theorem mN (n:Nat) (hN:n < 4611686018427387904) (P A Q B S:List TE) (hB:B.length=A.length) (x y k:Nat) (hx:P.length=x) (hy:x + k + Q.length=y) (hk:A.length=k) (hn:y + k + S.length=n) :
  aL Tryz.prog G 251 [dX n, .int .i64 x, .int .i64 y, .int .i64 k] (aV n (P ++ (A ++ (Q ++ (B ++ S))))) 2 (.tup []) (aV n (P ++ (B ++ (Q ++ (A ++ S))))) 2:=by
 refine bU seat Tryz.func251 23 ?_
 refine ad ?_
 refine ar Nat (fun i=> [(8, .int .i64 i),(4, .ptr 2 2 0 0 []),(3, .int .i64 k),(2, .int .i64 y),(1, .int .i64 x)]) (fun i=>aV n (P ++ ((B.take i ++ A.drop i) ++ (Q ++ ((A.take i ++ B.drop i) ++ S)))) ++ [(2,⟨229,2,false,0,[dX n]⟩)]) 3 (fun i=>i≤k) (fun i=>k - i) 0 (b₂ _) (vm [(2,_)] [] (h2:=by exact nF)) ?_
 intro i hi
 try dsimp only
 refine ad ?_
 refine ae rfl ?_ ?_ <;> intro h
 ·have hi':i < k:=by have:=ot h;omega
  have hst:=GY P A Q B S hB i om
  rw [hx,hk,hy] at hst
  have hlen:(P ++ ((B.take i ++ A.drop i) ++ (Q ++ ((A.take i ++ B.drop i) ++ S)))).length=n:=by simp;omega
  generalize P ++ ((B.take i ++ A.drop i) ++ (Q ++ ((A.take i ++ B.drop i) ++ S)))=t at *
  have hsw:=yO (G:=G) n t hlen (x + i) (y + i) om om
  rw [f₇,f₇] at hsw
  refine ad ?_
  refine dQ rfl (fun _ h=>h) rfl (hsw) [(0,0),(1,1)] [] ⟨rfl,trivial,rfl,lm,mm⟩ rfl rfl ?_
  refine ad ?_
  exact⟨i + 1,by show i + 1≤k;omega,by show k - (i + 1) < k - i;omega,by dsimp only;rw [← hst];exact(vm [(2,_)] [] (h2:=by exact nF))⟩
 ·have hi':i=k:=by have:=oF h;omega
  subst hi'
  rw [← hk,b₇,← hB,b₇,c₃,hB,c₃,b₉,b₉]
  refine ad ?_
  exact en []
end
section
variable {G:GS}
structure QH where
 P:List TE
 L:List TE
 R:List TE
 S:List TE
theorem JV (n:Nat) (hN:n < 2305843009213693952) (P L R S:List TE) (a m b:Nat) (hP:P.length=a) (hL:a + L.length=m) (hR:m + R.length=b) (hS:b + S.length=n) (hl:0 < L.length) (hr:0 < R.length) :
    aL Tryz.prog G 243 [dX n, .int .i64 a, .int .i64 m, .int .i64 b] (aV n (P ++ (L ++ (R ++ S)))) 2 (.tup []) (aV n (P ++ (R ++ (L ++ S)))) 2:=by
  refine bU seat Tryz.func243 53 ?_
  refine ad ?_
  refine ar QH (fun x=> [(9, .int .i64 x.R.length),(8, .int .i64 x.L.length),(4, .ptr 2 2 0 0 []),(2, .int .i64 m)]) (fun x=>aV n (x.P ++ (x.L ++ (x.R ++ x.S))) ++ [(2,⟨229,2,false,0,[dX n]⟩)]) 3
    (fun x=>x.P ++ (x.R ++ (x.L ++ x.S))=P ++ (R ++ (L ++ S))∧x.P.length + x.L.length=m∧m + x.R.length + x.S.length=n∧0 < x.L.length∧0 < x.R.length) (fun x=>x.L.length + x.R.length) ⟨P,L,R,S⟩ ⟨rfl,by show P.length + L.length=m;omega,by show m + R.length + S.length=n;omega,hl,hr⟩ (by
      dsimp only
      have e1:((b:Int) - m)=(R.length:Int):=om
      have e2:((m:Int) - a)=(L.length:Int):=om
      rw [← e1,← e2]
      exact(vm [(2,_)] [] (h2:=by exact nF))) ?_
  rintro⟨P1,L1,R1,S1⟩ ⟨hT,h1,h2,h3,h4⟩
  try dsimp only
  dsimp only at hT h1 h2 h3 h4
  rw [← hT]
  clear hT hP hL hR hS hl hr
  generalize hi:L1.length=i at *
  generalize hj:R1.length=j at *
  refine ad ?_
  refine ae rfl ?_ ?_ <;> intro h
  · have hne:i≠j:=by
      have: ¬ ((i:Int)=j):=(by simpa using h)
      omega
    refine ad ?_
    refine ae rfl ?_ ?_ <;> intro h
    · have hlt:j < i:=by have:=ot h;omega
      obtain⟨A,B,rfl,hA⟩:=Mn L1 (k:=j) om
      rw [a₇] at hi
      have hw:=mN (G:=G) n om P1 A B R1 S1 om P1.length m j rfl om hA om
      have e1:((m:Int) - (i:Int))=(P1.length:Int):=om
      refine ad ?_
      rw [e1]
      refine yc (hw) [(0,0),(1,1)] ?_
      refine ad ?_
      refine⟨⟨P1 ++ R1,B,A,S1⟩,⟨sm,by show(P1 ++ R1).length + B.length=m;rw [a₇];omega,by show m + A.length + S1.length=n;omega,by show 0 < B.length;omega,by show 0 < A.length;omega⟩,by dsimp only;rw [a₇];omega,?_⟩
      dsimp only
      rw [a₈]
      exact(vm [(2,_)] [] (h2:=by exact nF))
    · have hlt:i < j:=by have:=oF h;omega
      obtain⟨A,B,rfl,hA⟩:=Mn R1 (k:=j - i) om
      rw [a₇] at hj
      have hw:=mN (G:=G) n om P1 L1 A B S1 om P1.length (m + j - i) i rfl om om om
      refine ad ?_
      refine yc (hw) [(0,0),(1,1)] ?_
      refine ad ?_
      refine⟨⟨P1,B,A,L1 ++ S1⟩,⟨sm,by show P1.length + B.length=m;omega,by show m + A.length + (L1 ++ S1).length=n;rw [a₇];omega,by show 0 < B.length;omega,by show 0 < A.length;omega⟩,by dsimp only;rw [a₇];omega,?_⟩
      exact(by(try dsimp only);exact vm [(2,_)] [] (h2:=by exact nF))
  · have hne:i=j:=by
      have:(i:Int)=j:=(by simpa using h)
      omega
    subst hne
    have hw:=mN (G:=G) n om P1 L1 [] R1 S1 om P1.length m i rfl (by show P1.length + i + 0=m;omega) hi om
    refine ad ?_
    refine yc (hw) [(0,0),(1,1)] ?_
    refine ad ?_
    exact en []
end
section
variable {G:GS}
abbrev lD (l:List TE):Prop:=l.Pairwise fun x y=>x.2 < y.2
theorem gZ {R:TE→TE→Prop} {l1 l2:List TE}:(l1 ++ l2).Pairwise R↔l1.Pairwise R∧l2.Pairwise R∧∀x∈l1,∀y∈l2,R x y:=e₃
theorem By {A L R:List TE} {e:TE} {k:Nat} (hk:k < A.length) (he:A[k] =e) (hA:lD A) (hS:eK (A.take k)=L ++ R) (hR: ∀r∈R,kE e r) (hL: ∀L' z,L=L' ++ [z] →eC e.1 z.1=false) :
  L ++ e :: R=eK (A.take (k + 1)):=by
 have e1:=a₁ hk
 rw [he] at e1
 have htk:lD (A.take (k + 1)):=hA.sublist (f₂ _ _)
 have hs:=jJ (A.take k) (kD (hA.sublist (f₂ _ _)))
 rw [hS] at hs
 obtain⟨s1,s2,s3⟩:=gZ.1 hs
 have hp:(L ++ e :: R).Perm (A.take (k + 1)):=by
  have h1:(L ++ R).Perm (A.take k):=hS▸bt _
  have h2:(L ++ e :: R).Perm (e :: (L ++ R)):=List.perm_middle
  rw [e1]
  exact(h2.trans (h1.cons e)).trans (List.perm_append_singleton e _).symm
 refine qQ hp (gZ.2 ⟨s1,b₁.2 ⟨hR,s2⟩,fun x hx y hy=>?_⟩) (kD htk)
 have hxe:kE x e:=by
  rcases d₉ L with rfl | ⟨L',z,rfl⟩
  ·cases hx
  ·rw [e₀] at *
   have hz:kE z e:=by
    refine mK (hL L' z rfl) ?_
    have hm:z∈A.take k:=(bt _).mem_iff.1 (hS▸by simp)
    rw [e1] at htk
    exact(gZ.1 htk).2.2 z hm e sm
   rcases d₅.1 hx with h | h
   ·exact dF ((gZ.1 s1).2.2 x h z sm) hz
   ·rw [List.mem_singleton.1 h];exact hz
 rcases b₈.1 hy with rfl | hy
 ·exact hxe
 ·exact dF hxe (hR y hy)
theorem yP {A:List TE} (h:A.length≤1):eK A=A:=by
 match A,h with
 | [],_=>rfl
 | [x],_=>rfl
 | _ :: _ :: _,h=>simp at h
theorem pP (n:Nat) (t:List TE) (ht:t.length=n) (i j:Nat) {x y:TE} (hx:t[i]? =some x) (hy:t[j]? =some y):aL Tryz.prog G 144 [.int .i64 i, .int .i64 j, .ptr 0 1 0 0 []] (aV n t) 2 (.bool (eC x.1 y.1)) (aV n t) 2:=by
 obtain⟨h1,rfl⟩:=a₃.1 hx;obtain⟨h2,rfl⟩:=a₃.1 hy;exact Of n t ht i j om om
theorem yQ {X Z:List TE} {a:TE} {i:Nat} (hi:X.length=i):(X ++ a :: Z)[i]? =some a:=by subst hi;simp
theorem rP (n:Nat) (hN:n < 2305843009213693952) (P A S:List TE) (a b:Nat) (hP:P.length=a) (hb:a + A.length=b) (hS:b + S.length=n) (hA:lD A) :
  aL Tryz.prog G 215 [dX n, .int .i64 a, .int .i64 b] (aV n (P ++ (A ++ S))) 2 (.tup []) (aV n (P ++ (eK A ++ S))) 2:=by
 have h0:P ++ (A ++ S)=P ++ (eK (A.take 1) ++ (A.drop 1 ++ S)):=by
  rw [yP (A:=A.take 1) (by simp;omega),← a₈ (A.take 1),a₉]
 rw [h0]
 refine bU seat Tryz.func215 35 ?_
 refine ad ?_
 refine ar Nat (fun k=> [(6, .int .i64 ((a:Int) + k)),(3, .ptr 2 2 0 0 []),(2, .int .i64 b),(1, .int .i64 a)]) (fun k=>aV n (P ++ (eK (A.take k) ++ (A.drop k ++ S))) ++ [(2,⟨229,2,false,0,[dX n]⟩)]) 3 (fun k=>1≤k∧(k≤A.length∨k=1)) (fun k=>A.length - k) 1 ⟨om, .inr rfl⟩ (vm [(2,_)] [] (h2:=by exact nF)) ?_
 rintro k ⟨hk1,hk2⟩
 try dsimp only
 refine ad ?_
 refine ae rfl ?_ ?_ <;> intro h
 ·have hk:k < A.length:=by have:=ot h;omega
  rw [a₄ hk]
  refine ad ?_
  refine ar (List TE×List TE) (fun x=> [(7, .int .i64 ((a:Int) + x.1.length)),(6, .int .i64 ((a:Int) + k)),(3, .ptr 2 2 0 0 []),(2, .int .i64 b),(1, .int .i64 a)]) (fun x=>aV n (P ++ (x.1 ++ (A[k] :: (x.2 ++ (A.drop (k + 1) ++ S))))) ++ [(2,⟨229,2,false,0,[dX n]⟩)]) 3 (fun x=>eK (A.take k)=x.1 ++ x.2∧∀r∈x.2,kE A[k] r) (fun x=>x.1.length) (eK (A.take k),[]) ⟨sm,sm⟩ ?_ ?_
  ·have hl:(eK (A.take k)).length=k:=by rw [(bt _).length_eq];simp;omega
   try dsimp only
   rw [hl,c₀]
   exact(vm [(2,_)] [] (h2:=by exact nF))
  rintro⟨L,R⟩ ⟨hs,hR⟩
  try dsimp only
  dsimp only at hs hR
  have hlen:L.length + R.length=k:=by
   have:=congrArg List.length hs
   rw [(bt _).length_eq,a₇] at this
   simp at this;omega
  have hlt:(P ++ (L ++ (A[k] :: (R ++ (A.drop (k + 1) ++ S))))).length=n:=by simp;omega
  generalize hE:A[k] =e at *
  rcases d₉ L with rfl | ⟨L,z,rfl⟩
  ·have hd:=By hk hE hA hs hR (fun L' z h=>by simp at h)
   have hc:P ++ ([] ++ (e :: (R ++ (A.drop (k + 1) ++ S))))=P ++ (eK (A.take (k + 1)) ++ (A.drop (k + 1) ++ S)):=by rw [← hd];simp
   rw [hc]
   refine ad ?_
   refine ah rfl rfl ?_ rfl ?_ <;> intro h
   ·exfalso
    have:=ot h
    simp at this
   ·refine ad ?_
    exact⟨k + 1,⟨by omega, .inl hk⟩,by show A.length - (k + 1) < A.length - k;omega,(by(try dsimp only);exact vm [(2,_)] [] (h2:=by exact nF))⟩
  ·rw [e₀] at *
   have hj:(L ++ [z]).length=L.length + 1:=sm
   rw [hj] at hlen ⊢
   have hx1:(P ++ ((L ++ [z]) ++ (e :: (R ++ (A.drop (k + 1) ++ S)))))[a + (L.length + 1)]? =some e:=by
    rw [← a₈];exact yQ (by simp;omega)
   have hx2:(P ++ ((L ++ [z]) ++ (e :: (R ++ (A.drop (k + 1) ++ S)))))[a + L.length]? =some z:=by
    rw [a₈,← a₈];exact yQ (by simp;omega)
   have hsw:Df (P ++ ((L ++ [z]) ++ (e :: (R ++ (A.drop (k + 1) ++ S))))) (a + (L.length + 1)) (a + L.length)=P ++ (L ++ (e :: ((z :: R) ++ (A.drop (k + 1) ++ S)))):=by
    rw [Bv]
    have:=mL (X:=P ++ L) (Y:= []) (Z:=R ++ (A.drop (k + 1) ++ S)) (a:=z) (b:=e) (i:=a + L.length) (j:=a + (L.length + 1)) (by simp;omega) (by simp;omega)
    simpa using this
   have hless:=pP (G:=G) n _ hlt _ _ hx1 hx2
   have hswap:=yO (G:=G) n _ hlt (a + (L.length + 1)) (a + L.length) om om
   rw [hsw] at hswap
   refine ad ?_
   refine ah rfl rfl ?_ rfl ?_ <;> intro h
   ·refine ad ?_
    refine yc (hless) [(0,0),(1,1)] ?_
    refine ad ?_
    refine ae rfl ?_ ?_ <;> intro h
    ·refine ad ?_
     refine dQ rfl (fun _ h=>h) rfl (hswap) [(0,0),(1,1)] [] ⟨rfl,trivial,rfl,lm,mm⟩ rfl rfl ?_
     refine ad ?_
     exact⟨(L,z :: R),⟨by rw [hs];simp,fun r hr=>by
      rcases b₈.1 hr with rfl | hr
      ·exact befE_t h
      ·exact hR r hr⟩,by dsimp only;rw [a₇];simp,(by(try dsimp only);exact vm [(2,_)] [] (h2:=by exact nF))⟩
    ·have hd:=By hk hE hA hs hR (fun L' z' hz=>by
      have:=List.append_inj_right' hz rfl
      injection this with this
      subst this
      exact h)
     have hc:P ++ ((L ++ [z]) ++ (e :: (R ++ (A.drop (k + 1) ++ S))))=P ++ (eK (A.take (k + 1)) ++ (A.drop (k + 1) ++ S)):=by rw [← hd];simp
     rw [hc]
     refine ad ?_
     exact⟨k + 1,⟨by omega, .inl hk⟩,by show A.length - (k + 1) < A.length - k;omega,(by(try dsimp only);exact vm [(2,_)] [] (h2:=by exact nF))⟩
   ·exfalso
    have:=oF h
    omega
 ·have hk:A.length≤k:=by have:=oF h;omega
  rw [c₁ hk,List.drop_eq_nil_of_le hk,c₀]
  refine ad ?_
  exact en []
end
section
theorem Mq {A B:List TE} (h: ∀x∈A,∀y∈B,kE x y) (hn:dL (A ++ B)):eK (A ++ B)=eK A ++ eK B:=by
 have hn':=hn;obtain⟨n1,n2,_⟩:=e₃.1 hn;refine(qQ ((bt A).append (bt B)) (gZ.2 ⟨jJ A n1,jJ B n2,fun x hx y hy=>h x ((bt A).mem_iff.1 hx) y ((bt B).mem_iff.1 hy)⟩) hn').symm
theorem yR {A:List TE} (h:gH A) (hn:dL A):eK A=A:=(qQ (.refl _) h hn).symm
theorem Og {R:TE→TE→Prop} {l:List TE} (h:l.Pairwise R) {i j:Nat} {x y:TE} (hx:l[i]? =some x) (hy:l[j]? =some y) (hij:i < j):R x y:=by
 obtain⟨h1,rfl⟩:=a₃.1 hx;obtain⟨h2,rfl⟩:=a₃.1 hy;exact List.pairwise_iff_getElem.1 h i j h1 h2 hij
theorem nM {l:List TE} (h:gH l) {i j:Nat} {x y:TE} (hx:l[i]? =some x) (hy:l[j]? =some y) (hij:i≤j):x=y∨kE x y:=by
 rcases Nat.lt_or_ge i j with h1 | h1
 ·exact .inr (Og h hx hy h1)
 ·have:i=j:=om;subst this;rw [hx] at hy;injection hy with hy
  exact .inl hy
theorem ee {l:List TE} {i:Nat} (h:i < l.length): ∃x,l[i]? =some x:=⟨l[i],by simp [h]⟩
theorem mO {l:List TE} {i:Nat} {x:TE} (h:l[i]? =some x):x∈l:=e₁ h
def gB (A B:List TE) (u v:Nat):Bool:=match A[u]?,B[v]? with
 | some x,some y=>eC y.1 x.1
 | _,_=>false
theorem xb {A B:List TE} {u v:Nat} {x y:TE} (hx:A[u]? =some x) (hy:B[v]? =some y):gB A B u v=eC y.1 x.1:=by unfold gB;rw [hx,hy]
theorem su {A B:List TE} (hA:gH A) (hB:gH B) (ht: ∀x∈A,∀y∈B,x.2 < y.2) {u v u' v':Nat} (hu:u≤u') (hv:v'≤v) (h1:u' < A.length) (h2:v < B.length) (hg:gB A B u v=true):gB A B u' v'=true:=by
 obtain⟨x,hx⟩:=ee (l:=A) (i:=u) om;obtain⟨x',hx'⟩:=ee h1;obtain⟨y,hy⟩:=ee h2;obtain⟨y',hy'⟩:=ee (l:=B) (i:=v') om;rw [xb hx hy] at hg;rw [xb hx' hy'];have h3:=befE_t hg;have h4:kE y' x':=by
  have h5:kE y' x:=by
   rcases nM hB hy' hy hv with rfl | h
   ·exact h3
   ·exact dF h h3
  rcases nM hA hx hx' hu with rfl | h
  ·exact h5
  ·exact dF h5 h
 exact(uW (ht _ (mO hx') _ (mO hy'))).2 h4
theorem Mr {A B:List TE} (hA:gH A) (hB:gH B) (ht: ∀x∈A,∀y∈B,x.2 < y.2) {u v:Nat} (hu:u≤A.length) (hv:v≤B.length)
  (h1:0 < u→v < B.length→gB A B (u - 1) v=false) (h2:u < A.length→0 < v→gB A B u (v - 1)=true) :
  ∀x∈A.take u ++ B.take v,∀y∈A.drop u ++ B.drop v,kE x y:=by
 have sA:=(a₉ u A).symm
 have sB:=(a₉ v B).symm
 have pA:=hA
 rw [sA] at pA
 have pB:=hB
 rw [sB] at pB
 intro x hx y hy
 rcases d₅.1 hx with hx | hx <;> rcases d₅.1 hy with hy | hy
 ·exact(gZ.1 pA).2.2 x hx y hy
 ·obtain⟨i,hi,hxi⟩:=c₄.1 hx
  obtain⟨j,hj,hyj⟩:=c₄.1 hy
  simp at hi hj
  obtain⟨x1,hx1⟩:=ee (l:=A) (i:=u - 1) om
  obtain⟨y1,hy1⟩:=ee (l:=B) (i:=v) om
  have hg:=h1 om om
  rw [xb hx1 hy1] at hg
  have hlt:kE x1 y1:=mK hg (ht _ (mO hx1) _ (mO hy1))
  have ex:A[i]? =some x:=by rw [← hxi];simp
  have ey:B[v + j]? =some y:=by rw [← hyj];simp
  have q1:x=x1∨kE x x1:=nM hA ex hx1 om
  have q2:y1=y∨kE y1 y:=nM hB hy1 ey om
  have q3:kE x y1:=by
   rcases q1 with rfl | h
   ·exact hlt
   ·exact dF h hlt
  rcases q2 with rfl | h
  ·exact q3
  ·exact dF q3 h
 ·obtain⟨i,hi,hxi⟩:=c₄.1 hx
  obtain⟨j,hj,hyj⟩:=c₄.1 hy
  simp at hi hj
  obtain⟨x1,hx1⟩:=ee (l:=A) (i:=u) om
  obtain⟨y1,hy1⟩:=ee (l:=B) (i:=v - 1) om
  have hg:=h2 om om
  rw [xb hx1 hy1] at hg
  have hlt:kE y1 x1:=befE_t hg
  have ex:B[i]? =some x:=by rw [← hxi];simp
  have ey:A[u + j]? =some y:=by rw [← hyj];simp
  have q1:x=y1∨kE x y1:=nM hB ex hy1 om
  have q2:x1=y∨kE x1 y:=nM hA hx1 ey om
  have q3:kE x x1:=by
   rcases q1 with rfl | h
   ·exact hlt
   ·exact dF h hlt
  rcases q2 with rfl | h
  ·exact q3
  ·exact dF q3 h
 ·exact(gZ.1 pB).2.2 x hx y hy
theorem xc {α:Type} (a b c d:List α):((a ++ c) ++ (b ++ d)).Perm ((a ++ b) ++ (c ++ d)):=by
 simp only [a₈];refine List.Perm.append_left a ?_;rw [← a₈,← a₈];exact List.Perm.append_right d List.perm_append_comm
theorem Ms {A B:List TE} (hA:gH A) (hB:gH B) (ht: ∀x∈A,∀y∈B,x.2 < y.2) (hn:dL (A ++ B)) {u v:Nat} (hu:u≤A.length) (hv:v≤B.length)
  (h1:0 < u→v < B.length→gB A B (u - 1) v=false) (h2:u < A.length→0 < v→gB A B u (v - 1)=true) :
  eK (A ++ B)=eK (A.take u ++ B.take v) ++ eK (A.drop u ++ B.drop v):=by
 have hp:((A.take u ++ B.take v) ++ (A.drop u ++ B.drop v)).Perm (A ++ B):=by
  have:=xc (A.take u) (A.drop u) (B.take v) (B.drop v)
  rwa [a₉,a₉] at this
 rw [← w9 hp hn]
 exact Mq (Mr hA hB ht hu hv h1 h2) (hn.perm hp.symm)
end
end Go.Proofs.YthdhlcicpcnbhaaGreatDoor
