/- Parts of a proof, one behind the other: Y2, J0, Y3, WQ, N4, Y4, Y5, Y6, Y7, Y8, J1, J2, J3, J4, J5, J6, J7. -/
import Derived.Test.YthdhlcicpcnbhaaGreatDoorW09
open List renaming take_succ_eq_append_getElem → a₀,getElem?_eq_some_iff → a₁,take_append_drop → a₂,pairwise_cons → a₄,append_assoc → a₅,length_append → a₆,mem_iff_getElem → a₉,getElem_mem → b₀,getElem?_append_right → b₁,drop_eq_getElem_cons → b₂,length_map → b₃,mem_cons → b₄,nil_append → b₆,take_length → b₇,length_eq_zero_iff → b₈,append_nil → b₉,take_of_length_le → c₀,length_drop → c₁,getElem?_append_left → c₂,getElem?_eq_getElem → c₃,drop_of_length_le → c₄,length_take → c₆,length_filter_le → c₇,mem_map → c₈,pairwise_append → c₉,take_append_of_le_length → d₀,perm_append_singleton → d₁,drop_length → d₃,perm_middle → d₄,getElem?_cons_succ → d₅,mem_append → d₆,eq_nil_or_concat → d₇,concat_eq_append → d₈,map_take → d₉,filter_eq_self → e₀,map_set → e₂,mem_cons_self → e₃,mem_singleton → e₅,getElem?_set → e₆,take_sublist → e₇,length_cons → e₈,cons_append → f₀,map_append → f₁,replicate → f₅
open And renaming intro → a₃
open Nat renaming zero_add → a₇,le_refl → a₈,zero_le → b₅,lt_succ_self → c₅,le_of_eq → d₂,sub_self → e₁,ne_of_lt → e₄,min_eq_left → f₂,not_lt_zero → f₄
open Bool renaming and_eq_true → e₉
open Int renaming natCast_add → f₃
set_option maxRecDepth 20000
set_option maxHeartbeats 16000000
set_option linter.unusedVariables false
set_option linter.unusedSimpArgs false
namespace Go.Proofs.YthdhlcicpcnbhaaGreatDoor
open Go.RowKit
section
variable {G:GS}
attribute [local irreducible] aj aC aG aL aO vC aU au
abbrev Ja:MV:= .st [.arr 32 1 (u8s (f₅ 32 0)), .nils, .str [], .int .u64 0, .int .u64 0, .int .u64 0, .int .i64 0, .int .i64 0, .int .i64 0, .nils]
abbrev Jb:MV:= .arr 32 1 (u8s (f₅ 32 0))
theorem Nu (l:List (List UInt8)) (hl:l.length≤1000000) (g:FuncId) (v:MV) (p:List UInt8→Bool) (hg:ents.contains g=true) (hp: ∀x∈l,aD Tryz.prog G g [keyM x, .ep v 0 []] (.bool (p x))):aH Tryz.prog G 72 [.ms 0 32 0 l.length, .fn g [.ep v 0 []]] [(0,⟨55,32,true,0,l.map keyM⟩)] 1 (.ms 0 32 0 (l.filter fun x=> !p x).length) [(0,⟨55,32,true,0,(l.filter fun x=> !p x).map keyM⟩)] 1:=by
 have main:aH Tryz.prog G 72 [.ms 0 32 0 l.length, .fn g [.ep v 0 []]] [(0,⟨55,32,true,0,l.map keyM⟩)] 1 (.ms 0 32 0 (l.filter fun x=> !p x).length) [(0,⟨55,32,true,0,(l.filter fun x=> !p x).map keyM ++ repM (l.length - (l.filter fun x=> !p x).length) Jb⟩)] 1:=by
  have ci:=aa (Gq (G:=G) l hl g v p hg hp);have cb:=iA ci (M0:= [(0,⟨55,32,true,0,l.map keyM⟩)]) (n0:=1) (args:= [.ms 0 32 0 l.length, .fn g [.ep v 0 []]]) (.cons (RD.row (c:=0) (es:=32) ⟨55,32,true,0,l.map keyM⟩ rfl rfl sm (fun x hx=>by obtain⟨y,_,rfl⟩:=c₈.1 hx;rfl)) (.cons (.same rfl) .nil)) (.one (.same rfl));clear ci;generalize hF:(l.filter fun x=> !p x)=F at *;rcases mX p l 0 with ⟨h1,h2⟩ | ⟨j0,hj0,h1,h2,h3⟩
  ·have hFl:F=l:=by rw [← hF];exact e₀.2 fun x hx=>by rw [h2 x hx];rfl
   rw [h1] at cb;rw [hFl,e₁,repM,b₉];refine bR seat Tryz.func72 42 ?_;refine ae ?_;refine yc (cb) [(0,0)] ?_;refine ae ?_;exact en [_]
  ·rw [h1,a₇] at cb;have hst:=nj.start hj0 h2 h3;refine bR seat Tryz.func72 42 ?_;refine ae ?_;refine yc (cb) [(0,0)] ?_;refine ae ?_;refine ar (Nat×Nat×List (List UInt8)) (fun x=> [(6, .int .i64 x.2.1),(5, .int .i64 x.1),(1, .fn g [.ep v 0 []]),(0, .ms 0 32 0 l.length)]) (fun x=> [(0,⟨55,32,true,0,x.2.2.map keyM⟩)]) 1 (fun x=>nj p l x.1 x.2.1 x.2.2) (fun x=>l.length - x.2.1) (j0,j0 + 1,l) hst (vm [] []) ?_;clear hst cb;rintro⟨i,j,c⟩ hI;try dsimp only
   dsimp only at hI;have hij:=hI.ij;have hjl:=hI.jl;have hcl:=hI.hl;refine ae ?_;refine ad rfl ?_ ?_ <;> intro h
   ·have hj:j < l.length:=by have:=ot h;omega
    have hel:=al.mk (Mn (hI.at_ hj));have hpx:=hp _ (b₀ hj);have hsk:=hI.skip hj;have hke:=hI.keep hj;generalize hb:p l[j] =b at *;generalize l[j] =x at *;refine ae ?_;refine yv (hpx) ?_ (h2:=hg);refine ae ?_;cases b with
    | true=>
     refine ae ?_;exact⟨(i,j + 1,c),hsk rfl,dm,(by dsimp only;exact(vm [] []))⟩
    | false=>
     have hci:al (bH (c.map keyM) (0 + i)) (keyM c[i]):=al.mk (Mn (c₃ om));have hse:aT (setL (c.map keyM) (0 + i) (keyM x)) ((c.set i x).map keyM):=aT.mk (by rw [setL_eq,a₇,e₂]);generalize c[i] =y at *;refine ae ?_;exact⟨(i + 1,j + 1,c.set i x),hke rfl,dm,(by dsimp only;exact(vm [] []))⟩
   ·have hj:j=l.length:=by have:=oF h;omega
    subst hj;obtain⟨f1,f2⟩:=hI.fin;rw [hF] at f1 f2;have hil:i≤l.length:=om;have hlo:=al.mk (Ct (κ:= .i64) hil);have hhi:=al.mk (Ih (κ:= .i64) hil);have hsd:bN (0 + i + (l.length - i)≤(c.map keyM).length∧0≤0 + i):=bN.mk ⟨by rw [b₃];omega,b₅ _⟩;have hres:(c.map keyM).take (0 + i) ++ (repM (l.length - i) Jb ++ (c.map keyM).drop (0 + i + (l.length - i)))=F.map keyM ++ repM (l.length - F.length) Jb:=by
     rw [a₇,← d₉,f1,c₄ (by rw [b₃];omega),b₉,← f2]
    rw [← f2] at hres ⊢;clear f1 f2 hF;refine ae ?_;refine⟨[_],[],[],rfl,rfl,trivial,rfl,⟨?_,trivial⟩,?_⟩
    ·exact rv
    ·exact⟨.inr ⟨0,_,rfl,rfl,rfl,rfl, .inl rfl, .inl rfl, .inl ⟨hres.symm,rfl⟩⟩,trivial⟩
 have:=A8 (l.filter fun x=> !p x).length main (b₅ _);rw [d₀ sm,c₀ sm] at this;exact this
theorem Nv (l:List (Ent)) (hl:l.length≤1000000) (g:FuncId) (v:MV) (p:Ent→Bool) (hg:ents.contains g=true) (hp: ∀x∈l,aD Tryz.prog G g [aA x, .ep v 0 []] (.bool (p x))):aH Tryz.prog G 103 [.ms 0 41 0 l.length, .fn g [.ep v 0 []]] [(0,⟨64,41,true,0,l.map aA⟩)] 1 (.ms 0 41 0 (l.filter fun x=> !p x).length) [(0,⟨64,41,true,0,(l.filter fun x=> !p x).map aA⟩)] 1:=by
 have main:aH Tryz.prog G 103 [.ms 0 41 0 l.length, .fn g [.ep v 0 []]] [(0,⟨64,41,true,0,l.map aA⟩)] 1 (.ms 0 41 0 (l.filter fun x=> !p x).length) [(0,⟨64,41,true,0,(l.filter fun x=> !p x).map aA ++ repM (l.length - (l.filter fun x=> !p x).length) Ja⟩)] 1:=by
  have ci:=aa (wN (G:=G) l hl g v p hg hp);have cb:=iA ci (M0:= [(0,⟨64,41,true,0,l.map aA⟩)]) (n0:=1) (args:= [.ms 0 41 0 l.length, .fn g [.ep v 0 []]]) (.cons (RD.row (c:=0) (es:=41) ⟨64,41,true,0,l.map aA⟩ rfl rfl sm (fun x hx=>by obtain⟨y,_,rfl⟩:=c₈.1 hx;rfl)) (.cons (.same rfl) .nil)) (.one (.same rfl));clear ci;generalize hF:(l.filter fun x=> !p x)=F at *;rcases mX p l 0 with ⟨h1,h2⟩ | ⟨j0,hj0,h1,h2,h3⟩
  ·have hFl:F=l:=by rw [← hF];exact e₀.2 fun x hx=>by rw [h2 x hx];rfl
   rw [h1] at cb;rw [hFl,e₁,repM,b₉];refine bR seat Tryz.func103 42 ?_;refine ae ?_;refine yc (cb) [(0,0)] ?_;refine ae ?_;exact en [_]
  ·rw [h1,a₇] at cb;have hst:=nj.start hj0 h2 h3;refine bR seat Tryz.func103 42 ?_;refine ae ?_;refine yc (cb) [(0,0)] ?_;refine ae ?_;refine ar (Nat×Nat×List (Ent)) (fun x=> [(6, .int .i64 x.2.1),(5, .int .i64 x.1),(1, .fn g [.ep v 0 []]),(0, .ms 0 41 0 l.length)]) (fun x=> [(0,⟨64,41,true,0,x.2.2.map aA⟩)]) 1 (fun x=>nj p l x.1 x.2.1 x.2.2) (fun x=>l.length - x.2.1) (j0,j0 + 1,l) hst (vm [] []) ?_;clear hst cb;rintro⟨i,j,c⟩ hI;try dsimp only
   dsimp only at hI;have hij:=hI.ij;have hjl:=hI.jl;have hcl:=hI.hl;refine ae ?_;refine ad rfl ?_ ?_ <;> intro h
   ·have hj:j < l.length:=by have:=ot h;omega
    have hel:=al.mk (Ay (hI.at_ hj));have hpx:=hp _ (b₀ hj);have hsk:=hI.skip hj;have hke:=hI.keep hj;generalize hb:p l[j] =b at *;generalize l[j] =x at *;refine ae ?_;refine yv (hpx) ?_ (h2:=hg);refine ae ?_;cases b with
    | true=>
     refine ae ?_;exact⟨(i,j + 1,c),hsk rfl,dm,(by dsimp only;exact(vm [] []))⟩
    | false=>
     have hci:al (bH (c.map aA) (0 + i)) (aA c[i]):=al.mk (Ay (c₃ om));have hse:aT (setL (c.map aA) (0 + i) (aA x)) ((c.set i x).map aA):=aT.mk (by rw [setL_eq,a₇,e₂]);generalize c[i] =y at *;refine ae ?_;exact⟨(i + 1,j + 1,c.set i x),hke rfl,dm,(by dsimp only;exact(vm [] []))⟩
   ·have hj:j=l.length:=by have:=oF h;omega
    subst hj;obtain⟨f1,f2⟩:=hI.fin;rw [hF] at f1 f2;have hil:i≤l.length:=om;have hlo:=al.mk (Ct (κ:= .i64) hil);have hhi:=al.mk (Ih (κ:= .i64) hil);have hsd:bN (0 + i + (l.length - i)≤(c.map aA).length∧0≤0 + i):=bN.mk ⟨by rw [b₃];omega,b₅ _⟩;have hres:(c.map aA).take (0 + i) ++ (repM (l.length - i) Ja ++ (c.map aA).drop (0 + i + (l.length - i)))=F.map aA ++ repM (l.length - F.length) Ja:=by
     rw [a₇,← d₉,f1,c₄ (by rw [b₃];omega),b₉,← f2]
    rw [← f2] at hres ⊢;clear f1 f2 hF;refine ae ?_;refine⟨[_],[],[],rfl,rfl,trivial,rfl,⟨?_,trivial⟩,?_⟩
    ·exact rv
    ·exact⟨.inr ⟨0,_,rfl,rfl,rfl,rfl, .inl rfl, .inl rfl, .inl ⟨hres.symm,rfl⟩⟩,trivial⟩
 have:=A8 (l.filter fun x=> !p x).length main (b₅ _);rw [d₀ sm,c₀ sm] at this;exact this
end
section
variable {G:GS}
theorem wO: ∀(l:List Int),bE (l.map (MV.int .i64)) 1=true
 | [] =>rfl
 | _ :: _=>rfl
theorem CK (l:List Int) (hbl:l.length < 536870912):aH Tryz.prog G 159 [bM l] [] 0 (bM l) [] 0:=by
 unfold bM;refine bR seat Tryz.func159 8 ?_;refine ae ?_;refine wj rfl rfl (fun b hb=>?_);cases b with
 | true=>
  have h0:=hb rfl;have h1:l= [] :=b₈.1 h0;subst h1;refine ae ?_;refine av ?_;exact en [_]
 | false=>
  refine ae ?_;refine aY rfl rfl (by intro R hR;refine dM hR ?_;refine a₃ ((wO l)) ?_;refine a₃ ⟨rfl,aE (by kernel_rfl) pf⟩ ?_;refine⟨l.map (MV.int .i64),sv (by show [] ++ l.map (MV.int .i64)=_;rw [b₆]),l.length,sv pf,?_⟩;exact hR) rfl ?_;refine ae ?_;refine⟨[_],[],[(5,l.length)],rfl,rfl,?_,rfl,⟨?_,trivial⟩,?_⟩
  ·exact⟨by show l.length≤(l.map (MV.int .i64)).length;simp,trivial⟩
  ·exact .inr ⟨rfl,rfl,rfl,d₂ (a₇ _),bT (MV.int .i64) l⟩
  ·exact mm
theorem qy (e:Ent) (hr:e.raw.length < 536870912) (hp:e.peers.length < 536870912):aD Tryz.prog G 135 [aA e] (aA e):=by
 obtain⟨e1,e2,e3,e4,e5,e6,e7,e8,e9,e10⟩:=e;have c1:=tY (G:=G) e2 hr;have c2:=CK (G:=G) e10 hp;unfold aA bM at *;dsimp only at *;refine aZ seat Tryz.func135 12 ?_;refine ae ?_;refine aw [ag 0,ag 1,de 2,ag 3,ag 4,de 5,ag 6,ag 7,ag 8,ag 9] ?_;refine ae ?_;refine jT (c1) ?_;refine jT (c2) ?_;refine av ?_;rfl
def mw (l:List (List UInt8)):VM:= [(0,⟨55,32,true,0,l.map keyM⟩)]
theorem pG (l:List Ent) (hl:l.length < 1000000) (hok: ∀e∈l,e.raw.length < 536870912∧e.peers.length < 536870912):aH Tryz.prog G 94 [.sl l.length (l.map aA)] [] 0 (.ms 0 41 0 l.length) [(0,⟨64,41,true,0,l.map aA⟩)] 1:=by
 refine bR seat Tryz.func94 19 ?_;refine ae ?_;refine ar Nat (fun k=> [(8, .int .i64 k),(7, .int .i64 l.length),(6, .sl l.length (l.map aA)),(3, .ms 0 41 0 k)]) (fun k=> [(0,⟨64,41,true,0,(l.take k).map aA⟩)]) 1 (fun k=>k≤l.length) (fun k=>l.length - k) 0 (b₅ _) (vm [] []) ?_;intro k hk;try dsimp only
 refine ae ?_;refine ad rfl ?_ ?_ <;> intro h
 ·have hk':k < l.length:=by have:=ot h;omega
  have hke:=hok _ (b₀ hk');(have fct:=al.mk (eF hk');refine ae ?_);refine cC (qy l[k] hke.1 hke.2) ?_;refine aY rfl rfl (by intro R hR;refine dM hR ?_;(refine a₃ (a₈ _) ?_;refine⟨_,rfl,?_⟩;refine a₃ ⟨(by simp;omega),aE (by kernel_rfl) pf⟩ ?_;refine⟨(l.take (k + 1)).map aA,sv (by rw [a₀ hk',f₁];rfl),k + 1,sv pf,?_⟩);exact hR) rfl ?_;refine ae ?_;exact⟨k + 1,by show k + 1≤l.length;omega,by show l.length - (k + 1) < l.length - k;omega,(by dsimp only;exact(vm [(0,_)] []))⟩
 ·have hk':k=l.length:=by have:=oF h;omega
  subst hk';rw [b₇];refine ae ?_;refine⟨[_],[(0,0)],[],rfl,rfl,trivial,rfl,⟨?_,trivial⟩,?_⟩
  ·exact .inr ⟨_,rfl,rfl⟩
  ·exact mm
end
section
variable {G:GS}
attribute [local irreducible] aj aC aG aL aO vC aU au
theorem Ep: ∀l:List UInt8,MV.flats (u8s l)=true
 | [] =>rfl
 | a :: l=>by
  show(true && MV.flats (u8s l))=true
  rw [Ep l];rfl
theorem Jc (k:List UInt8):(keyM k).flat=true:=Ep k
theorem rY (l:List (List UInt8)):RD MV.flat (VM.get (mw l)) (.sl l.length (l.map keyM)) (.ms 0 32 0 l.length):=
 RD.row ⟨55,32,true,0,l.map keyM⟩ rfl rfl sm (fun x hx=>by obtain⟨y,_,rfl⟩:=c₈.1 hx;exact Jc y)
theorem k7 (l:List (List UInt8)) (hl:l.length≤1000000):aH Tryz.prog G 71 [.sl l.length (l.map keyM)] [] 0 (.ms 0 32 0 l.length) (mw l) 1:=by
 unfold mw;refine bR seat Tryz.func71 8 ?_;refine ae ?_;refine wj rfl rfl (fun b hb=>?_);cases b with
 | true=>
  have h0:=hb rfl;have h1:l= [] :=b₈.1 h0;subst h1;refine ae ?_;refine av ?_;exact en [_]
 | false=>
  refine ae ?_;refine aY rfl rfl (by intro R hR;refine dM hR ?_;refine a₃ ((eZ l)) ?_;refine a₃ ⟨rfl,aE (by kernel_rfl) pf⟩ ?_;refine⟨l.map keyM,sv (by show [] ++ l.map keyM=_;rw [b₆]),l.length,sv pf,?_⟩;exact hR) rfl ?_;refine ae ?_;exact eb [_] [(0,5)] []
theorem Ba (l:List (List UInt8)) (hl:l.length≤1000000):aH Tryz.prog G 71 [.sl l.length (l.map keyM)] [] 0 (.sl l.length (l.map keyM)) [] 0:=
 iA (k7 l hl) (A7.same rfl) (.one (rY l))
theorem LB (x k:List UInt8) (h:x.length=k.length):aD Tryz.prog G 73 [keyM x, .ep (keyM k) 0 []] (.bool (decide (x=k))):=by
 have q1:=al.mk (qm h);have s1:=bN.mk (iL x k);generalize decide (x=k)=b at *;refine aZ seat Tryz.func73 7 ?_;refine ae ?_;refine av ?_;rfl
theorem wP (l:List (List UInt8)) (k:List UInt8) (hl:l.length≤1000000) (hk32:k.length=32) (hs:eG l):aH Tryz.prog G 36 [.sl l.length (l.map keyM),keyM k] [] 0 (.ms 0 32 0 (cL k l).length) (mw (cL k l)) 1:=by
 have c1:=k7 (G:=G) l hl;have c2:=Nu (G:=G) l hl 73 (keyM k) (fun x=>decide (x=k)) (by kernel_rfl) fun x hx=>LB x k (by rw [hs x hx,hk32])
 rw [show (l.filter fun x=> !decide (x=k))=cL k l by unfold cL;congr 1;funext x;simp] at c2;generalize cL k l=F at *;unfold mw at *;refine bR seat Tryz.func36 9 ?_;refine ae ?_;refine yc (c1) [] ?_;refine ae ?_;refine bQ rfl (fun _ h=>h) rfl (c2) [(0,3)] [(0,1)] ⟨rfl,mm,rfl,⟨.inr ⟨_,rfl,rfl⟩, .inr ⟨_,rfl,⟨.inr ⟨rfl,c₅ 0,rfl,rfl,rfl,rfl⟩,trivial⟩⟩,trivial⟩,mm⟩ rfl rfl ?_;refine ae ?_;exact eb [_] [(0,3)] []
theorem Er (l:List (List UInt8)) (k:List UInt8) (hl:l.length≤1000000) (hk32:k.length=32) (hs:eG l):aH Tryz.prog G 36 [.sl l.length (l.map keyM),keyM k] [] 0 (.sl (cL k l).length ((cL k l).map keyM)) [] 0:=
 iA (wP l k hl hk32 hs) (A7.same rfl) (.one (rY _))
theorem OI (s:Int):(if (0:Int) > s then 0 else s)=max s 0:=by
 by_cases hs:(0:Int) > s
 ·rw [if_pos hs];omega
 ·rw [if_neg hs];omega
theorem LC (s:Int):(if (1024:Int) < s then 1024 else s)=min s 1024:=by
 by_cases hs:(1024:Int) < s
 ·rw [if_pos hs];omega
 ·rw [if_neg hs];omega
theorem Gr (l:List (List UInt8)) (size:Int) (k:List UInt8) (hl:l.length≤1000000) (hk32:k.length=32) (hs:eG l):aH Tryz.prog G 34 [.sl l.length (l.map keyM), .int .i64 size,keyM k] [] 0 (.ms 0 32 0 (dw k l size).length) (mw (dw k l size)) 1:=by
 have c1:=yA (G:=G) l k hl hk32 hs;have e1:=aT.mk (OI size);have e2:=aT.mk (LC (max size 0));unfold dw;by_cases hk:k∈l
 ·rw [decide_eq_true hk] at c1;rw [if_pos hk];have c2:=wP (G:=G) l k hl hk32 hs;obtain⟨W,hW⟩: ∃W,W=cL k l ++ [k] :=⟨_,rfl⟩
  rw [← hW];have hWl:W.length=(cL k l).length + 1:=by rw [hW];simp
  have hpl:(cL k l).length≤l.length:=c₇ _ _;have hW2:W.map keyM=(cL k l).map keyM ++ [keyM k] :=by rw [hW];simp
  clear hW;generalize cL k l=D at *;generalize min (max size 0) 1024=z at *;generalize max size 0=y at *;unfold mw at *;refine bR seat Tryz.func34 36 ?_;refine ae ?_;refine cC (c1) ?_;refine aw [ag 0,ag 1,de 2,ag 3,ag 4,ag 5,ag 6] ?_;refine ae ?_;refine bG rfl (fun _ h=>h) rfl [] (c2) [] [] ⟨rfl,trivial,rfl,lm,mm⟩ rfl rfl rfl rfl rfl ?_;refine ae ?_;refine bO rfl (by intro R hR;refine dM hR ?_;(refine a₃ (a₈ _) ?_;refine⟨_,rfl,?_⟩;refine a₃ ⟨sm,aE (by kernel_rfl) pf⟩ ?_;refine⟨W.map keyM,sv (by rw [hW2];rfl),W.length,sv pf,?_⟩);exact hR) rfl ?_;refine ae ?_;exact eb [_] [(0,_)] []
 ·rw [decide_eq_false hk] at c1;rw [if_neg hk];have hz:0≤min (max size 0) 1024∧min (max size 0) 1024≤1024:=om;generalize min (max size 0) 1024=z at *;generalize max size 0=y at *;by_cases h0:z=0
  ·rw [if_pos h0];subst h0;have c2:=k7 (G:=G) l hl;unfold mw at *;refine bR seat Tryz.func34 36 ?_;refine ae ?_;refine cC (c1) ?_;refine yc (c2) [] ?_;refine ae ?_;exact eb [_] [(0,_)] []
  ·rw [if_neg h0];obtain⟨d,hd⟩: ∃d:Nat,d=(max ((l.length:Int) - z + 1) 0).toNat:=⟨_,rfl⟩
   rw [← hd];have hdl:d≤l.length:=om;have e3:=aT.mk (show(if (0:Int) > (l.length:Int) - z + 1 then 0 else(l.length:Int) - z + 1)=(d:Int) by rw [OI];omega);have b1:=al.mk (Ct (κ:= .i64) hdl);have b2:=bN.mk (eZ l);have b3:aT (cutL (l.map keyM) d l.length) ((l.drop d).map keyM):=aT.mk (by unfold cutL;rw [c₀ (by rw [c₁,b₃];exact a₈ _),List.map_drop]);have b4:=aT.mk (show l.length - d=(l.drop d).length by rw [c₁]);have c2:=k7 (G:=G) (l.drop d) (by rw [c₁];omega);obtain⟨W,hW⟩: ∃W,W=l.drop d ++ [k] :=⟨_,rfl⟩
   rw [← hW];have hWl:W.length=(l.drop d).length + 1:=by rw [hW];simp
   have hpl:(l.drop d).length≤l.length:=by rw [c₁];omega
   have hW2:W.map keyM=(l.drop d).map keyM ++ [keyM k] :=by rw [hW];simp
   clear hW;generalize l.drop d=D at *;unfold mw at *;refine bR seat Tryz.func34 36 ?_;refine ae ?_;refine cC (c1) ?_;refine ad rfl ?_ ?_ <;> intro h
   ·exact absurd (by simpa using h) h0
   refine ae ?_;refine aw [ag 0,ag 1,ag 2,ag 3,ag 4,ag 5,ag 6,ag 7,de 8,ag 9,ag 10,ag 11,ag 12] ?_;refine ae ?_;refine bG rfl (fun _ h=>h) rfl [] (c2) [] [] ⟨rfl,trivial,rfl,lm,mm⟩ rfl rfl rfl rfl rfl ?_;refine ae ?_;refine bO rfl (by intro R hR;refine dM hR ?_;(refine a₃ (a₈ _) ?_;refine⟨_,rfl,?_⟩;refine a₃ ⟨sm,aE (by kernel_rfl) pf⟩ ?_;refine⟨W.map keyM,sv (by rw [hW2];rfl),W.length,sv pf,?_⟩);exact hR) rfl ?_;refine ae ?_;exact eb [_] [(0,_)] []
theorem yB (l:List (List UInt8)) (size:Int) (k:List UInt8) (hl:l.length≤1000000) (hk32:k.length=32) (hs:eG l):aH Tryz.prog G 34 [.sl l.length (l.map keyM), .int .i64 size,keyM k] [] 0 (.sl (dw k l size).length ((dw k l size).map keyM)) [] 0:=
 iA (Gr l size k hl hk32 hs) (A7.same rfl) (.one (rY _))
end
section
attribute [local irreducible] aj aC aG aL aO vC aU au
theorem uI (a:nR) (ha:ig a):aD Tryz.prog GU 93 [appM a] (appM a):=by
 have c1:=yp (G:=GU) a.com (by have:=ha.1.1;omega);have c2:=yp (G:=GU) a.chk (by have:=ha.2.1.1;omega);have c3:=yp (G:=GU) a.nxt (by have:=ha.2.2.1.1;omega);obtain⟨⟨a1,b1⟩,⟨a2,b2⟩,⟨a3,b3⟩,op,price⟩:=a;unfold appM lgM at *;dsimp only at *;refine aZ seat Tryz.func93 16 ?_;refine ae ?_;refine aw [ag 0,ag 1,de 2,ag 3,ag 4,de 5,ag 6,ag 7,de 8,ag 9,ag 10,ag 11,ag 12,ag 13,ag 14] ?_;refine ae ?_;refine jT (c1) ?_;refine jT (c2) ?_;refine jT (c3) ?_;refine av ?_;rfl
theorem Jd (a:nR) (raw:List UInt8) (ha:ig a) (hraw:raw.length≤140737488355328):aD Tryz.prog GU 100 [appM a, .sl raw.length (u8s raw)] (jy (fX a raw)):=by
 have c1:=Mm a.chk a.price raw ha.2.1 ha.2.2.2 hraw;unfold fX;obtain⟨⟨a1,b1⟩,⟨a2,b2⟩,⟨a3,b3⟩,op,price⟩:=a;dsimp only at *;generalize Ar ⟨a2,b2⟩ price raw=y at *;obtain⟨⟨nacs,ncol⟩,⟨ec,esn,esq,egs,epr⟩⟩:=y;unfold appM lgM jy at *;dsimp only at *;refine aZ seat Tryz.func100 17 ?_;refine ae ?_;refine jS (c1) ?_;refine av ?_;rfl
theorem Gs (a:nR) (raw:List UInt8) (ha:ig a) (hraw:raw.length≤140737488355328):aD Tryz.prog GU 105 [appM a, .sl raw.length (u8s raw)] (appM (fB a raw)):=by
 have c0:=uI a ha;have c1:=Mm a.chk a.price raw ha.2.1 ha.2.2.2 hraw;unfold fB;obtain⟨⟨a1,b1⟩,⟨a2,b2⟩,⟨a3,b3⟩,op,price⟩:=a;dsimp only at *;generalize Ar ⟨a2,b2⟩ price raw=y at *;obtain⟨⟨nacs,ncol⟩,⟨ec,esn,esq,egs,epr⟩⟩:=y;unfold appM lgM jy at *;dsimp only at *;refine aZ seat Tryz.func105 19 ?_;refine ae ?_;refine cC (c0) ?_;refine jS (c1) ?_;refine av ?_;rfl
end
section
section
variable {T:bf} {M:VM} {E:VE} {l:List ResultVar} {K:List MV→Prop}
theorem OJ {t:Nat} {v:MV} (hv:VE.get E t=some v) (h:dK T M E l fun r=>K (v :: r)):dK T M E (.tmp t :: l) K:=by
 unfold dK;rw [hv];exact h
theorem Nw {p ty c es k fo:Nat} {path:List Nat} {b:MB} {m r:MV} (hp:VE.get E p=some (.ptr c es k fo path)) (hc:VM.get M c=some b) (hm:bH b.l k=some m) (hr:xM m path=some r) (hk:(Fq T ty b.es es r && KG m path fo)=true) (h:dK T M E l fun x=>K (r :: x)):dK T M E (.cell p ty :: l) K:=by
 have h2:=lU (Pg:=default) (n:=0) (dst:=none) (ty:=0) (pos:=default) (after:= #[]) (g:=none) (x:= .tmp p) (R:=fun y:MV×Dl=>dK T M E l fun x=>K (y.1 :: x)) hp hc hm hr hk h;change (rd (VE.get E) (.tmp p) fun p=>fS T (VM.get M) ty p).runP _ at h2;unfold rd at h2;rw [show iD (VE.get E) (Operand.tmp p)=some (.ptr c es k fo path) from hp] at h2;unfold dK;rw [hp];exact h2
theorem P3 {rs:List ResultVar} {vs:List MV} (h:dK T M E rs (fun v=>v=vs):=by first | ((repeat(first | ((with_reducible apply Nw);(case hp=>exact rfl);(case hc=>exact rfl);(case hm=>exact rfl);(case hr=>exact rfl);(case hk=>kernel_rfl)) | ((with_reducible apply OJ);(case hv=>exact rfl))));exact rfl) | (refine av ?_;exact rfl)):dK T M E rs (fun v=>v=vs):=h
end
end
section
variable {G:GS}
attribute [local irreducible] aj aC aG aL aO vC aU au
def lp (l:List Int):MB:=⟨3,1,true,0,l.map (MV.int .i64)⟩
def ke (l:List Ent):MB:=⟨64,41,true,0,l.map aA⟩
def qz (e:Ent) (c:Nat):MV:= .st [keyM e.key, .sl e.raw.length (u8s e.raw), .str e.sender, .int .u64 e.seq, .int .u64 e.gas, .int .u64 e.prio, .int .i64 e.height, .int .i64 e.time, .int .i64 e.order, .ms c 1 0 e.peers.length]
theorem CL (l:List Int) (hl:l.length≤1000000):aH Tryz.prog G 159 [bM l] [] 0 (.ms 0 1 0 l.length) [(0,lp l)] 1:=by
 unfold lp bM;refine bR seat Tryz.func159 8 ?_;refine ae ?_;refine wj rfl rfl (fun b hb=>?_);cases b with
 | true=>
  have h0:=hb rfl;have h1:l= [] :=b₈.1 h0;subst h1;refine ae ?_;refine av ?_;exact en [_]
 | false=>
  refine ae ?_;refine aY rfl rfl (by intro R hR;refine dM hR ?_;refine a₃ ((wO l)) ?_;refine a₃ ⟨rfl,aE (by kernel_rfl) pf⟩ ?_;refine⟨l.map (MV.int .i64),sv (by show [] ++ l.map (MV.int .i64)=_;rw [b₆]),l.length,sv pf,?_⟩;exact hR) rfl ?_;refine ae ?_;exact eb [_] [(0,5)] []
theorem CM (e:Ent) (hr:e.raw.length < 536870912) (hp:e.peers.length≤1000000):aH Tryz.prog G 135 [aA e] [] 0 (qz e 0) [(0,lp e.peers)] 1:=by
 obtain⟨e1,e2,e3,e4,e5,e6,e7,e8,e9,e10⟩:=e;have c1:=tY (G:=G) e2 hr;have c2:=CL (G:=G) e10 hp;unfold aA qz lp bM at *;dsimp only at *;refine bR seat Tryz.func135 12 ?_;refine ae ?_;refine aw [ag 0,ag 1,de 2,ag 3,ag 4,de 5,ag 6,ag 7,ag 8,ag 9] ?_;refine ae ?_;refine jT (c1) ?_;refine bG rfl (fun _ h=>h) rfl [] (c2) [] [] ⟨rfl,trivial,rfl,lm,mm⟩ rfl rfl rfl rfl rfl ?_;refine ae ?_;refine av ?_;exact eb [_] [(0,7)] []
def dU (l:List Ent) (e:Ent) (i k c:Nat):List MV:=(l.take i).map aA ++ qz e c :: ((l.take k).drop (i + 1)).map aA
theorem wQ {σ:Nat→Option Nat} {fz:Fz}: ∀{a b c d:List MV},cN.relVs σ fz a c→cN.relVs σ fz b d→cN.relVs σ fz (a ++ b) (c ++ d)
 | [],b,[],d,_,h=>h
 | _ :: a,b,_ :: c,d,h1,h2=>⟨h1.1,wQ h1.2 h2⟩
 | [],_,_ :: _,_,h,_=>h.elim
 | _ :: _,_,[],_,h,_=>h.elim
theorem iP: ∀l:List Ent,MV.idFrees (l.map aA)=true
 | [] =>rfl
 | e :: l=>by
  show(true && MV.idFrees (l.map aA))=true
  rw [iP l];rfl
theorem Je {σ:Nat→Option Nat} {fz:Fz} (e:Ent) {c d:Nat} (h:σ c=some d):cN σ fz (qz e c) (qz e d):=by
 unfold qz;exact .inr ⟨_,rfl,⟨rfl,rfl⟩, .inl rfl,⟨rfl,rfl⟩,⟨rfl,rfl⟩,⟨rfl,rfl⟩,⟨rfl,rfl⟩,⟨rfl,rfl⟩,⟨rfl,rfl⟩,⟨rfl,rfl⟩, .inr ⟨d,h,rfl⟩,trivial⟩
theorem il {σ:Nat→Option Nat} {fz:Fz} (l:List Ent) (e:Ent) (i k:Nat) {c d:Nat} (h:σ c=some d):cN.relVs σ fz (dU l e i k c) (dU l e i k d):=
 wQ (dv _ (iP _)) ⟨Je e h,dv _ (iP _)⟩
theorem CN (l:List Ent) (e:Ent) (i c:Nat):(l.take i).map aA ++ [qz e c] =dU l e i (i + 1) c:=by
 unfold dU;rw [c₄ (by rw [c₆];omega)];rfl
theorem Gt {l:List Ent} {e:Ent} {i k c:Nat} (hk:k < l.length) (h:i < k):dU l e i k c ++ [aA l[k]] =dU l e i (k + 1) c:=by
 unfold dU;rw [a₀ hk,List.drop_append_of_le_length (by rw [c₆];omega)];simp
theorem uJ {l:List Ent} {e:Ent} {i k c:Nat} (hi:i < k) (hk:k≤l.length):(dU l e i k c).length=k:=by
 unfold dU;simp only [a₆,e₈,b₃,c₁,c₆];omega
theorem yC (l:List Ent) (i:Nat) (hi:i < l.length) (hl:l.length < 1000000) (hok: ∀e∈l,e.raw.length < 536870912∧e.peers.length≤1000000):aH Tryz.prog G 94 [.sl l.length (l.map aA)] [] 0 (.ms 0 41 0 l.length) [(0,⟨64,41,false,0,dU l l[i] i l.length 1⟩),(1,lp l[i].peers)] 2:=by
 obtain⟨e0,he0⟩: ∃e0,e0=l[i] :=⟨_,rfl⟩
 have hi0:=hok _ (b₀ hi);rw [← he0] at hi0;have cp:=CM (G:=G) e0 hi0.1 hi0.2;rw [← he0];unfold lp at *;refine bR seat Tryz.func94 19 ?_;refine ae ?_;refine ar (Bool×Nat) (fun x=> [(8, .int .i64 x.2),(7, .int .i64 l.length),(6, .sl l.length (l.map aA)),(3, .ms 0 41 0 x.2)]) (fun x=>bif x.1 then [(0,⟨64,41,false,0,dU l e0 i x.2 1⟩),(1,⟨3,1,true,0,e0.peers.map (MV.int .i64)⟩)] else [(0,⟨64,41,true,0,(l.take x.2).map aA⟩)]) 2 (fun x=>(x.1=false→x.2≤i)∧(x.1=true→i < x.2∧x.2≤l.length)) (fun x=>l.length - x.2) (false,0) ⟨fun _=>b₅ _,fun h=>nomatch h⟩ (vm [] []) ?_;rintro⟨b,k⟩ ⟨hb0,hb1⟩;cases b with
 | false=>
  have hki:k≤i:=hb0 rfl;clear hb0 hb1;have hk':k < l.length:=om;try dsimp only [cond_false]
  refine ae ?_;refine ad rfl ?_ ?_ <;> intro h
  rotate_left
  ·exact absurd (oF h) om
  have hel:=eF hk';have hke:=hok _ (b₀ hk');by_cases hkk:k=i
  ·subst hkk;rw [← he0] at hel;have hel:=al.mk hel;refine ae ?_;refine yc (cp) [] ?_;refine ae ?_;refine aY rfl rfl (by intro R hR;refine dM hR ?_;(refine a₃ (a₈ _) ?_;refine⟨_,rfl,?_⟩;refine a₃ ⟨(by simp;omega),aE (by kernel_rfl) pf⟩ ?_;refine⟨dU l e0 k (k + 1) 9,sv (by rw [← CN];rfl),k + 1,sv pf,?_⟩);exact hR) rfl ?_;refine ae ?_;exact⟨(true,k + 1),⟨fun h=>(nomatch h),fun _=>⟨c₅ k,hk'⟩⟩,dm,(by dsimp only [cond_true];exact vm [(0,11),(1,9)] [] (h2:=⟨.inr ⟨11,_,rfl,rfl,rfl,rfl, .inl rfl, .inl rfl, .inr (il _ _ _ _ rfl)⟩,by exact mm⟩))⟩
  ·have cq:=qy (G:=G) l[k] hke.1 om;have hsucc:(l.take (k + 1)).map aA=(l.take k).map aA ++ [aA l[k]] :=by rw [a₀ hk',f₁];rfl
   generalize l[k] =e at *;have hel:=al.mk hel;refine ae ?_;refine cC (cq) ?_;refine aY rfl rfl (by intro R hR;refine dM hR ?_;(refine a₃ (a₈ _) ?_;refine⟨_,rfl,?_⟩;refine a₃ ⟨(by simp;omega),aE (by kernel_rfl) pf⟩ ?_;refine⟨(l.take (k + 1)).map aA,sv (by rw [hsucc];rfl),k + 1,sv pf,?_⟩);exact hR) rfl ?_;refine ae ?_;exact⟨(false,k + 1),⟨fun _=>by omega,fun h=>nomatch h⟩,dm,(by dsimp only;exact(vm [(0,_)] []))⟩
 | true=>
  obtain⟨hik,hkl⟩:=hb1 rfl;clear hb0 hb1;dsimp only at hik hkl;try dsimp only [cond_true]
  have hlen:=uJ (e:=e0) (c:=1) hik hkl;refine ae ?_;refine ad rfl ?_ ?_ <;> intro h
  ·have hk':k < l.length:=by have:=ot h;omega
   have hel:=eF hk';have hke:=hok _ (b₀ hk');have cq:=qy (G:=G) l[k] hke.1 om;have hsucc:=Gt (e:=e0) (c:=1) hk' hik;generalize l[k] =e at *;have hel:=al.mk hel;refine ae ?_;refine cC (cq) ?_;refine aY rfl rfl (by intro R hR;refine dM hR ?_;(refine a₃ (a₈ _) ?_;refine⟨_,rfl,?_⟩;refine a₃ ⟨hlen,aE (by kernel_rfl) pf⟩ ?_;refine⟨dU l e0 i (k + 1) 1,sv (by rw [← hsucc];rfl),k + 1,sv pf,?_⟩);exact hR) rfl ?_;refine ae ?_;exact⟨(true,k + 1),⟨fun h=>(nomatch h),fun _=>⟨om,hk'⟩⟩,dm,(by dsimp only [cond_true];exact vm [(0,10),(1,1)] [] (h2:=⟨.inr ⟨10,_,rfl,rfl,rfl,rfl, .inl rfl, .inl rfl, .inr (il _ _ _ _ rfl)⟩,by exact mm⟩))⟩
  ·have hk':k=l.length:=by have:=oF h;omega
   subst hk';refine ae ?_;refine⟨[_],[(0,0),(1,1)],[],rfl,rfl,trivial,rfl,⟨?_,trivial⟩,?_⟩
   ·exact rv
   ·exact⟨.inr ⟨0,_,rfl,rfl,rfl,rfl, .inl rfl, .inl rfl, .inr (il _ _ _ _ rfl)⟩,mm⟩
end
section
attribute [local irreducible] aj aC aG aL aO vC aU au
theorem wR {ρ:Nat→Nat}: ∀a b:List MV,renVs ρ (a ++ b)=renVs ρ a ++ renVs ρ b
 | [],_=>rfl
 | x :: a,b=>congrArg (cH ρ x :: ·) (wR a b)
theorem nU {ρ:Nat→Nat}: ∀l:List Ent,renVs ρ (l.map aA)=l.map aA
 | [] =>rfl
 | e :: l=>congrArg (aA e :: ·) (nU l)
theorem uK {ρ:Nat→Nat} (l:List Ent) (e:Ent) (i k c:Nat):renVs ρ (dU l e i k c)=dU l e i k (ρ c):=by
 unfold dU;rw [wR,nU]
 show _ ++ qz e (ρ c) :: renVs ρ _=_
 rw [nU]
abbrev stE (s:cY) (c:Nat):MV:= .st [cfM s.cfg,appM s.app, .int .i64 s.height, .int .i64 s.time, .int .i64 s.arr, .ms c 41 0 s.ents.length, .sl s.cache.length (s.cache.map keyM)]
theorem uL (s:cY) (ha:ig s.app) (hl:s.ents.length < 1000000) (hc:s.cache.length≤1000000) (hok: ∀e∈s.ents,e.raw.length < 536870912∧e.peers.length < 536870912):aH Tryz.prog GU 49 [cO s] [] 0 (stE s 0) [(0,ke s.ents)] 1:=by
 have c1:=uI s.app ha;have c2:=pG (G:=GU) s.ents hl hok;have c3:=Ba (G:=GU) s.cache hc;clear ha hok;obtain⟨⟨f1,f2,f3,f4,f5,f6,keep,f8,f9,f10,f11,f12⟩,⟨⟨a1,a2⟩,⟨a3,a4⟩,⟨a5,a6⟩,a7,a8⟩,height,time,arr,ents,cache⟩:=s;unfold ke;dsimp only [cO,stE,cfM,appM,lgM] at *;generalize ents.map aA=b4 at *;generalize cache.map keyM=b6 at *;try generalize a1.map aV=b1 at *
 try generalize a1.length=d1 at *
 try generalize a3.map aV=b3 at *
 try generalize a3.length=d3 at *
 try generalize a5.map aV=b5 at *
 try generalize a5.length=d5 at *
 refine bR seat Tryz.func49 16 ?_;refine ae ?_;refine aw [ag 0,ag 1,de 2,ag 3,ag 4,de 5,ag 6,ag 7,de 8,ag 9,ag 10,ag 11,ag 12,ag 13,ag 14] ?_;refine ae ?_;refine dk (c1) ?_;refine bG rfl (fun _ h=>h) rfl [] (c2) [] [] ⟨rfl,trivial,rfl,lm,mm⟩ rfl rfl rfl rfl rfl ?_;refine ae ?_;refine jT (c3) ?_;refine av ?_;exact eb [_] [(0,7)] []
theorem CO (s:cY) (ha:ig s.app) (hl:s.ents.length < 1000000) (hc:s.cache.length≤1000000) (hok: ∀e∈s.ents,e.raw.length < 536870912∧e.peers.length≤1000000) (i:Nat) (hi:i < s.ents.length):aH Tryz.prog GU 49 [cO s] [] 0 (stE s 0) [(0,⟨64,41,false,0,dU s.ents s.ents[i] i s.ents.length 1⟩),(1,lp s.ents[i].peers)] 2:=by
 have c1:=uI s.app ha;have c2:=yC (G:=GU) s.ents i hi hl hok;have c3:=Ba (G:=GU) s.cache hc;clear ha hok;obtain⟨⟨f1,f2,f3,f4,f5,f6,keep,f8,f9,f10,f11,f12⟩,⟨⟨a1,a2⟩,⟨a3,a4⟩,⟨a5,a6⟩,a7,a8⟩,height,time,arr,ents,cache⟩:=s;dsimp only at hi;have hrel: ∀{σ:Nat→Option Nat} {fz:Fz} {ρ:Nat→Nat},σ 1=some (ρ 1)→cN.relVs σ fz (dU ents ents[i] i ents.length 1) (renVs ρ (dU ents ents[i] i ents.length 1)):=fun h=>by rw [uK];exact il _ _ _ _ h
 generalize dU ents ents[i] i ents.length 1=Z at *;unfold lp at *;dsimp only [cO,stE,cfM,appM,lgM] at *;generalize ents[i].peers.map (MV.int .i64)=b5 at *;generalize ents.map aA=b4 at *;generalize cache.map keyM=b6 at *;try generalize a1.map aV=b1 at *
 try generalize a1.length=d1 at *
 try generalize a3.map aV=b3 at *
 try generalize a3.length=d3 at *
 try generalize a5.map aV=b5 at *
 try generalize a5.length=d5 at *
 refine bR seat Tryz.func49 16 ?_;refine ae ?_;refine aw [ag 0,ag 1,de 2,ag 3,ag 4,de 5,ag 99,ag 6,ag 7,de 8,ag 9,ag 10,ag 11,ag 12,ag 13,ag 14] ?_;refine ae ?_;refine dk (c1) ?_;refine bG rfl (fun _ h=>h) rfl [8] (c2) [] [] ⟨rfl,trivial,rfl,lm,mm⟩ rfl rfl rfl rfl rfl ?_;refine ae ?_;refine jT (c3) ?_;refine av ?_;refine⟨[_],[(0,7),(1,8)],[],rfl,rfl,trivial,rfl,⟨?_,trivial⟩,?_⟩
 ·exact .inr ⟨_,rfl,lm⟩
 ·refine⟨.inr ⟨7,_,rfl,rfl,rfl,rfl, .inl rfl, .inl rfl, .inr (hrel rfl)⟩,?_⟩;exact mm
end
section
attribute [local irreducible] aj aC aG aL aO vC aU au
section
variable {G:GS}
theorem Es {σ:Nat→Option Nat} {fz:Fz} {f:FuncId} {x y:MV} (h:cN σ fz x y):cN σ fz (.fn f [x]) (.fn f [y]):= .inr ⟨_,rfl,h,trivial⟩
theorem LD (e:Ent) (k:List UInt8) (h:e.key.length=k.length):aD Tryz.prog G 76 [aA e, .ep (keyM k) 0 []] (.bool (decide (e.key=k))):=by
 have q1:=al.mk (qm h);have s1:=bN.mk (iL e.key k);generalize decide (e.key=k)=b at *;obtain⟨e1,e2,e3,e4,e5,e6,e7,e8,e9,e10⟩:=e;unfold aA;dsimp only at *;refine aZ seat Tryz.func76 8 ?_;refine ae ?_;refine av ?_;rfl
theorem uM (s:cY) (k:List UInt8) (hl:s.ents.length≤1000000) (hk32:k.length=32) (hs: ∀e∈s.ents,e.key.length=32):aD Tryz.prog G 38 [cO s,keyM k] (.int .i64 (kY k s.ents)):=by
 have c1:=wN (G:=G) s.ents hl 76 (keyM k) (fun e=>decide (e.key=k)) (by kernel_rfl) fun e he=>LD e k (by rw [hs e he,hk32])
 rw [A6] at c1;have e0:kY k s.ents=posK k (s.ents.map (·.key)) 0:=rfl;rw [← e0] at c1;clear e0 hs;obtain⟨⟨f1,f2,f3,f4,f5,f6,keep,f8,f9,f10,f11,f12⟩,⟨⟨a1,a2⟩,⟨a3,a4⟩,⟨a5,a6⟩,a7,a8⟩,height,time,arr,ents,cache⟩:=s;dsimp only at *;generalize kY k ents=R at *;dsimp only [cO,cfM,appM,lgM] at *;generalize ents.map aA=b4 at *;generalize cache.map keyM=b6 at *;try generalize a1.map aV=b1 at *
 try generalize a1.length=d1 at *
 try generalize a3.map aV=b3 at *
 try generalize a3.length=d3 at *
 try generalize a5.map aV=b5 at *
 try generalize a5.length=d5 at *
 refine aZ seat Tryz.func38 9 ?_;refine ae ?_;refine bQ rfl (fun _ h=>h) rfl (aa c1) [] [(1,1)] ⟨rfl,mm,rfl,⟨rv,Es (.inr ⟨rfl,c₅ 0,rfl,rfl,rfl,rfl⟩),trivial⟩,mm⟩ rfl rfl ?_;refine ae ?_;refine av ?_;rfl
theorem qA (n:Int):aD Tryz.prog G 98 [.int .i64 n] (.bool (cZ n)):=by
 generalize hr:cZ n=R;unfold cZ at hr;refine aZ seat Tryz.func98 9 ?_;refine ae ?_;refine ah rfl rfl ?_ rfl ?_ <;> intro h
 ·have k1:=ot h;refine ae ?_;refine av ?_;rw [← hr];exact congrArg MV.bool (decide_eq_decide.2 om)
 ·have k1:=oF h;refine ae ?_;refine av ?_;rw [← hr];exact congrArg MV.bool (decide_eq_false om).symm
theorem rZ (raw:List UInt8) (h:raw.length≤1000000):aD Tryz.prog G 51 [.sl raw.length (u8s raw)] (keyM (bm raw)):=by
 have c1:=MK (G:=G) raw om;have h32:=jV raw;generalize bm raw=k at *;refine aZ seat Tryz.func51 5 ?_;refine ae ?_;refine cC (c1) ?_;refine av ?_;rfl
end
def iB (s:cY) (raw:List UInt8):kU:=let r:=fX s.app raw;if r.code=0∧qq s r.gas=true then { r with code:=22 } else r
theorem LF (s:cY) (raw:List UInt8) (hc:rJ s.cfg) (ha:ig s.app) (hraw:raw.length≤140737488355328):aD Tryz.prog GU 54 [cO s, .sl raw.length (u8s raw)] (jy (iB s raw)):=by
 have c1:=Jd s.app raw ha hraw;have hg:=hc.blkG;unfold iB qq;generalize fX s.app raw=r at *;obtain⟨r1,r2,r3,r4,r5⟩:=r;clear hc ha;obtain⟨⟨f1,f2,f3,f4,f5,f6,keep,f8,f9,f10,f11,f12⟩,⟨⟨a1,a2⟩,⟨a3,a4⟩,⟨a5,a6⟩,a7,a8⟩,height,time,arr,ents,cache⟩:=s;dsimp only at *;dsimp only [cO,cfM,appM,lgM,jy] at *;generalize ents.map aA=b4 at *;generalize cache.map keyM=b6 at *;try generalize a1.map aV=b1 at *
 try generalize a1.length=d1 at *
 try generalize a3.map aV=b3 at *
 try generalize a3.length=d3 at *
 try generalize a5.map aV=b5 at *
 try generalize a5.length=d5 at *
 by_cases h0:r1=0
 ·subst h0;by_cases h9:f9= -1
  ·subst h9;rw [if_neg sm];refine aZ seat Tryz.func54 30 ?_;refine ae ?_;refine cC (c1) ?_;refine av ?_;rfl
  ·have hcv:aT (IntKind.u64.wrap f9) f9:=aT.mk (bt _ om om);by_cases hh:f9 < (r4:Int)
   ·rw [if_pos (by simp;omega)];refine aZ seat Tryz.func54 30 ?_;refine ae ?_;refine cC (c1) ?_;refine ah rfl rfl ?_ rfl ?_ <;> intro h
    ·refine ae ?_;refine ad rfl ?_ ?_ <;> intro h
     ·refine ae ?_;refine av ?_;rfl
     ·exact absurd (oF h) om
    ·exact absurd (by simpa using h) h9
   ·rw [if_neg (by simp;omega)];refine aZ seat Tryz.func54 30 ?_;refine ae ?_;refine cC (c1) ?_;refine ah rfl rfl ?_ rfl ?_ <;> intro h
    ·refine ae ?_;refine ad rfl ?_ ?_ <;> intro h
     ·exact absurd (ot h) om
     ·refine ae ?_;refine av ?_;rfl
    ·exact absurd (by simpa using h) h9
 ·rw [if_neg (fun h=>h0 h.1)];refine aZ seat Tryz.func54 30 ?_;refine ae ?_;refine cC (c1) ?_;refine ah rfl rfl ?_ rfl ?_ <;> intro h
  ·exact absurd (by simpa using h) h0
  refine ae ?_;refine av ?_;rfl
end
section
variable {G:GS}
attribute [local irreducible] aj aC aG aL aO vC aU au
theorem LG (s:cY) (k:List UInt8) (peer:Int) (hk32:k.length=32) (hl:s.ents.length≤1000000) (hs: ∀e∈s.ents,e.key.length=32∧e.peers.length≤1000000) (hcl:s.cache.length≤1000000) (hck:eG s.cache)
  (hno:kY k s.ents= -1∨∃j,∃hj:j < s.ents.length,kY k s.ents=(j:Int)∧(cZ peer=true→peer∈s.ents[j].peers)):aH Tryz.prog G 53 [cO s,keyM k, .int .i64 peer] [] 0 (cO { s with cache:=dw k s.cache s.cfg.cache }) [] 0:=by
 have c1:=yB (G:=G) s.cache s.cfg.cache k hcl hk32 hck
 have c2:=uM (G:=G) { s with cache:=dw k s.cache s.cfg.cache } k hl hk32 fun e he=>(hs e he).1
 have c3:=qA (G:=G) peer
 obtain⟨⟨f1,f2,f3,f4,f5,f6,keep,f8,f9,f10,f11,f12⟩,⟨⟨a1,a2⟩,⟨a3,a4⟩,⟨a5,a6⟩,a7,a8⟩,height,time,arr,ents,cache⟩:=s
 dsimp only at *
 rcases hno with hR | ⟨j,hj,hR,hp⟩
 ·rw [hR] at c2
  clear hR hs hck
  generalize dw k cache f4=P at *
  dsimp only [cO,cfM,appM,lgM] at *
  generalize ents.map aA=b4 at *
  generalize cache.map keyM=b6 at *
  generalize P.map keyM=b7 at *
  try generalize a1.map aV=b1 at *
  try generalize a1.length=d1 at *
  try generalize a3.map aV=b3 at *
  try generalize a3.length=d3 at *
  try generalize a5.map aV=b5 at *
  try generalize a5.length=d5 at *
  refine bR seat Tryz.func53 51 ?_
  refine ae ?_
  refine jS (c1) ?_
  refine cC (c2) ?_
  refine ae ?_
  refine av ?_
  exact en [_]
 ·rw [hR] at c2
  have hel:=eF hj
  have c4:=ru (G:=G) ents[j].peers peer (hs _ (b₀ hj)).2
  clear hR hs hck
  generalize dw k cache f4=P at *
  generalize cZ peer=bp at *
  generalize ents[j] =e at *
  obtain⟨e1,e2,e3,e4,e5,e6,e7,e8,e9,e10⟩:=e
  replace hel:cS (ents.map aA) ents.length (j:Int)=some (.st [keyM e1, .sl e2.length (u8s e2), .str e3, .int .u64 e4, .int .u64 e5, .int .u64 e6, .int .i64 e7, .int .i64 e8, .int .i64 e9, .sl e10.length (e10.map (MV.int .i64))]):=hel
  dsimp only [bM] at c4 hp
  dsimp only [cO,cfM,appM,lgM] at *
  generalize ents.map aA=b4 at *
  generalize cache.map keyM=b6 at *
  generalize P.map keyM=b7 at *
  have hel:=al.mk hel
  try generalize a1.map aV=b1 at *
  try generalize a1.length=d1 at *
  try generalize a3.map aV=b3 at *
  try generalize a3.length=d3 at *
  try generalize a5.map aV=b5 at *
  try generalize a5.length=d5 at *
  cases bp with
  | false=>
   refine bR seat Tryz.func53 51 ?_
   refine ae ?_
   refine jS (c1) ?_
   refine cC (c2) ?_
   refine cC (c3) ?_
   refine av ?_
   exact en [_]
  | true=>
   rw [decide_eq_true (hp rfl)] at c4
   refine bR seat Tryz.func53 51 ?_
   refine ae ?_
   refine jS (c1) ?_
   refine cC (c2) ?_
   refine cC (c3) ?_
   refine cC (c4) ?_
   refine av ?_
   exact en [_]
theorem RD.stl {q:MV→Bool} {m:FM} {l' l:List MV} (h:A7 q m l' l):RD q m (.st l') (.st l):=by
 obtain⟨h1,h2⟩:=h.get;refine .st h1 fun j x y hx hy=>?_
 obtain⟨y',hy',hd⟩:=h2 hx;rw [hy] at hy';injection hy' with hy'
 subst hy';exact hd
theorem uN (l:List Ent) {i:Nat} (hi:i < l.length) (c j:Nat):(dU l l[i] i l.length c)[j]? =if j=i then some (qz l[i] c) else(l.map aA)[j]? :=by
 unfold dU;rw [b₇];rcases Nat.lt_trichotomy j i with h | rfl | h
 ·rw [if_neg om,c₂ (by simp;omega),d₉,List.getElem?_take_of_lt h]
 ·rw [if_pos rfl,b₁ (by simp;omega)];simp [f₂ (Nat.le_of_lt hi)]
 ·rw [if_neg om,b₁ (by simp;omega)];simp only [b₃,c₆,f₂ (Nat.le_of_lt hi)];obtain⟨d,rfl⟩: ∃d,j=i + 1 + d:=⟨j - (i + 1),om⟩
  rw [show i + 1 + d - i=d + 1 by omega,d₅,List.map_drop,List.getElem?_drop]
theorem LH {m:FM} {e:Ent} {c:Nat} (h:m c=some (lp e.peers)):RD MV.idFree m (aA e) (qz e c):=by
 unfold aA qz bM;refine .stl (.cons (.same rfl) (.cons (.same rfl) (.cons (.same rfl) (.cons (.same rfl) (.cons (.same rfl) (.cons (.same rfl) (.cons (.same rfl) (.cons (.same rfl) (.cons (.same rfl) (.cons ?_ .nil))))))))));exact RD.row (lp e.peers) h rfl sm (fun x hx=>by obtain⟨y,_,rfl⟩:=c₈.1 hx;rfl)
theorem Bb {m:FM} (s:cY) {i:Nat} (hi:i < s.ents.length) (h0:m 0=some ⟨64,41,false,0,dU s.ents s.ents[i] i s.ents.length 1⟩) (h1:m 1=some (lp s.ents[i].peers)):RD MV.idFree m (cO s) (stE s 0):=by
 refine .stl (.cons (.same rfl) (.cons (.same rfl) (.cons (.same rfl) (.cons (.same rfl) (.cons (.same rfl) (.cons ?_ (.cons (.same rfl) .nil)))))));refine .ms _ h0 rfl (by decide) (by rw [a₇,uJ hi (a₈ _)];exact a₈ _) sm fun j x y hx hy=>?_
 rw [a₇,uN _ hi] at hy;by_cases hj:j=i
 ·subst hj;rw [if_pos rfl] at hy;injection hy with hy
  subst hy;rw [List.getElem?_map,c₃ hi] at hx;injection hx with hx
  subst hx;exact LH h1
 ·rw [if_neg hj,hx] at hy;injection hy with hy
  subst hy;exact .same (gS (iP s.ents) j x hx)
theorem Jf (l:List Ent) {i:Nat} (hi:i < l.length) (c:Nat) (x:MV):setL (dU l l[i] i l.length c) (0 + i) x=(l.map aA).set i x:=by
 rw [setL_eq,a₇];apply List.ext_getElem?;intro j;rw [e₆,e₆,uN _ hi,uJ hi (a₈ _),b₃];by_cases h:i=j
 ·subst h;simp [hi]
 ·rw [if_neg h,if_neg h,if_neg (fun e=>h e.symm)]
theorem wS {σ:Nat→Option Nat} {fz:Fz} {x y:MV} (h:cN σ fz x y): ∀{l:List MV} (i:Nat),MV.idFrees l=true→cN.relVs σ fz (l.set i x) (l.set i y)
 | [],_,_=>trivial
 | a :: l,0,hf=>by
  have hf:(a.idFree && MV.idFrees l)=true:=hf
  rw [e₉] at hf
  exact⟨h,dv _ hf.2⟩
 | a :: l,i + 1,hf=>by
  have hf:(a.idFree && MV.idFrees l)=true:=hf
  rw [e₉] at hf
  have:=dv (σ:=σ) (fz:=fz) [a] (by show(a.idFree && true)=true;rw [hf.1];rfl)
  exact⟨this.1,wS h i hf.2⟩
theorem LI (s:cY) (k:List UInt8) (peer:Int) (i:Nat) (hi:i < s.ents.length) (hk32:k.length=32) (hl:s.ents.length≤1000000) (hs: ∀e∈s.ents,e.key.length=32∧e.peers.length≤100000) (hcl:s.cache.length≤1000000) (hck:eG s.cache)
  (hR:kY k s.ents=(i:Int)) (hp:cZ peer=true) (hn:peer ∉ s.ents[i].peers):aH Tryz.prog G 53 [stE s 0,keyM k, .int .i64 peer] [(0,⟨64,41,false,0,dU s.ents s.ents[i] i s.ents.length 1⟩),(1,lp s.ents[i].peers)] 2 (cO { s with cache:=dw k s.cache s.cfg.cache,ents:=s.ents.set i { s.ents[i] with peers:=s.ents[i].peers ++ [peer] } }) [] 2:=by
 have c1:=yB (G:=G) s.cache s.cfg.cache k hcl hk32 hck
 have c2:=aa (uM (G:=G) { s with cache:=dw k s.cache s.cfg.cache } k hl hk32 fun e he=>(hs e he).1)
 have c3:=qA (G:=G) peer
 have hse:=hs _ (b₀ hi)
 have c4:=aa (ru (G:=G) s.ents[i].peers peer om)
 have b2:=iA c2 (M0:= [(0,⟨64,41,false,0,dU s.ents s.ents[i] i s.ents.length 1⟩),(1,lp s.ents[i].peers)]) (n0:=2) (args:= [stE { s with cache:=dw k s.cache s.cfg.cache } 0,keyM k]) (.cons (Bb { s with cache:=dw k s.cache s.cfg.cache } hi rfl rfl) (.cons (.same rfl) .nil)) (.one (.same rfl))
 have b4:=iA c4 (M0:= [(0,lp s.ents[i].peers)]) (n0:=1) (args:= [.ms 0 1 0 s.ents[i].peers.length, .int .i64 peer]) (.cons (RD.row (lp s.ents[i].peers) rfl rfl sm (fun x hx=>by obtain⟨y,_,rfl⟩:=c₈.1 hx;rfl)) (.cons (.same rfl) .nil)) (.one (.same rfl))
 rw [decide_eq_false hn] at b4
 dsimp only at b2
 rw [hR] at b2
 clear c2 c4 hR hs hck hn
 have hget:bH (dU s.ents s.ents[i] i s.ents.length 1) (0 + i)=some (qz s.ents[i] 1):=by rw [bD,a₇,uN _ hi,if_pos rfl]
 have hset:=fun x=>Jf s.ents hi 1 x
 have hfr:=iP s.ents
 have hml:(s.ents.set i { s.ents[i] with peers:=s.ents[i].peers ++ [peer] }).map aA=(s.ents.map aA).set i (aA { s.ents[i] with peers:=s.ents[i].peers ++ [peer] }):=by rw [e₂]
 have hmn:(s.ents.set i { s.ents[i] with peers:=s.ents[i].peers ++ [peer] }).length=s.ents.length:=List.length_set ..
 have hZ1: ∀{σ:Nat→Option Nat} {fz:Fz},σ 1=some 1→cN.relVs σ fz (dU s.ents s.ents[i] i s.ents.length 1) (dU s.ents s.ents[i] i s.ents.length 1):=fun h=>il _ _ _ _ h
 have hZ2: ∀{σ:Nat→Option Nat} {fz:Fz} {ρ:Nat→Nat},σ 1=some (ρ 1)→cN.relVs σ fz (dU s.ents s.ents[i] i s.ents.length 1) (renVs ρ (dU s.ents s.ents[i] i s.ents.length 1)):=fun h=>by rw [uK];exact il _ _ _ _ h
 rw [hp] at c3
 generalize s.ents.set i { s.ents[i] with peers:=s.ents[i].peers ++ [peer] }=W at *
 generalize dU s.ents s.ents[i] i s.ents.length 1=Z at *
 generalize dw k s.cache s.cfg.cache=P at *
 generalize s.ents[i] =e at *
 obtain⟨e1,e2,e3,e4,e5,e6,e7,e8,e9,e10⟩:=e
 unfold lp qz at *
 dsimp only [bM] at *
 have hget:=al.mk hget
 refine bR seat Tryz.func53 51 ?_
 refine ae ?_
 refine jS (c1) ?_
 refine bQ rfl (fun _ h=>h) rfl (b2) [(0,0),(1,1)] [] ⟨rfl,trivial,rfl,lm, .inr ⟨0,_,rfl,rfl,rfl,rfl, .inl rfl, .inl rfl, .inr (hZ1 rfl)⟩,mm⟩ rfl rfl ?_
 refine qc [(18, .int .i64 i),(6, .ptr 4 25 0 0 []),(3, .ptr 2 25 0 0 []),(2, .int .i64 peer)] [(0,⟨64,41,false,0,Z⟩),(1,⟨3,1,true,0,e10.map (MV.int .i64)⟩),(2,⟨42,25,false,0,[stE { s with cache:=P } 0]⟩),(4,⟨42,25,false,0,[po]⟩)] [] trivial rfl mm ⟨.inr ⟨0,_,rfl,rfl,rfl,rfl, .inl rfl, .inl rfl, .inr (hZ2 rfl)⟩,mm⟩ ?_
 refine ae ?_
 refine cC (c3) ?_
 refine yc (b4) [(0,1)] ?_
 refine ae ?_
 refine aw [ag 0,ag 1,ag 2,ag 3,ag 4,ag 5,ag 6,ag 7,ag 8,ag 9,ag 10,ag 11,ag 12,ag 13,ag 14] ?_
 refine ae ?_
 refine bO rfl (by intro R hR;refine dM hR ?_;(refine a₃ (a₈ _) ?_;refine⟨_,rfl,?_⟩;refine a₃ ⟨sm,aE (by kernel_rfl) pf⟩ ?_;refine⟨(e10 ++ [peer]).map (MV.int .i64),sv (by simp;rfl),(e10 ++ [peer]).length,sv pf,?_⟩);exact hR) rfl ?_
 refine Ea ?_
 have hfw:=iP W
 refine jq [(6, .ptr 4 25 0 0 [])] [(0,⟨64,41,true,0,W.map aA⟩),(4,⟨42,25,false,0,[stE { s with cache:=P } 0]⟩)] 5 ⟨[(4,4)],[(45,(e10 ++ [peer]).length)],rfl,mm,rfl,⟨⟨_,rfl,rv⟩,trivial⟩,⟨.inr ⟨0,_,rfl,rfl,rfl,rfl, .inr (.inr ⟨rfl,rfl,hfw⟩), .inl rfl, .inr ?_⟩,mm⟩⟩ ?_
 ·show cN.relVs _ _ (W.map aA) (setL Z (0 + i) _)
  rw [hset,hml]
  refine wS ?_ i hfr
  unfold aA
  dsimp only
  exact .inr ⟨_,rfl,⟨rfl,rfl⟩, .inl rfl,⟨rfl,rfl⟩,⟨rfl,rfl⟩,⟨rfl,rfl⟩,⟨rfl,rfl⟩,⟨rfl,rfl⟩,⟨rfl,rfl⟩,⟨rfl,rfl⟩, .inr ⟨rfl,rfl,rfl,d₂ (a₇ _),bT _ _⟩,trivial⟩
 refine ae ?_
 refine av ?_
 refine⟨[_],[],[(0,W.length)],rfl,rfl,?_,rfl,⟨?_,trivial⟩,?_⟩
 ·exact⟨by show W.length≤(W.map aA).length;simp,trivial⟩
 ·have hms:MV.ms 0 41 0 s.ents.length= .ms 0 41 0 W.length:=by rw [hmn]
  refine .inr ⟨_,rfl, .inl ⟨rfl,rfl⟩, .inl ⟨rfl,rfl⟩,⟨rfl,rfl⟩,⟨rfl,rfl⟩,⟨rfl,rfl⟩, .inr ?_, .inl rfl,trivial⟩
  show MC _ (.ms 0 41 0 s.ents.length) _ _
  rw [hms]
  exact⟨rfl,rfl,rfl,d₂ (a₇ _),bT _ _⟩
 ·exact mm
end
section
attribute [local irreducible] aj aC aG aL aO vC aU au
theorem Nx {G:GS} (e:Ent) (ks:List (List UInt8)) (hl:ks.length≤1000000) (h:e.key.length=32) (hs:eG ks):aD Tryz.prog G 104 [aA e, .ep (.sl ks.length (ks.map keyM)) 0 []] (.bool (decide (e.key∈ks))):=by
 have c1:=yA (G:=G) ks e.key hl h hs;generalize decide (e.key∈ks)=b at *;obtain⟨e1,e2,e3,e4,e5,e6,e7,e8,e9,e10⟩:=e;unfold aA;dsimp only at *;refine aZ seat Tryz.func104 8 ?_;refine ae ?_;refine cC (c1) ?_;refine av ?_;rfl
theorem CP (ks:List (List UInt8)) (c:List (List UInt8)) {k:Nat} (hk:k < ks.length):(ks.take (k + 1)).foldl (fun c k=>cL k c) c=cL ks[k] ((ks.take k).foldl (fun c k=>cL k c) c):=by
 rw [a₀ hk,List.foldl_append];rfl
def Mo (s:cY) (key raw:List UInt8) (peer:Int) (r:kU):cY:={ s with ents:=s.ents ++ [AG s key raw peer r],arr:=s.arr + 1 }
theorem Jg (s:cY) (raw:List UInt8) (peer:Int) (r:kU) (ks:List (List UInt8)) (hraw:raw.length≤1000000) (ha:ig s.app) (hl:s.ents.length≤100000) (hs: ∀e∈s.ents,e.key.length=32) (hcl:s.cache.length≤1000000) (hck:eG s.cache) (hks:eG ks) (hkl:ks.length≤1000000) (harr:0≤s.arr∧s.arr < 4611686018427387904) :
  aH Tryz.prog GU 56 [stE s 0, .sl raw.length (u8s raw), .int .i64 peer,jy r, .sl ks.length (ks.map keyM)] [(0,ke s.ents)] 1 (cO (kc s (bm raw) raw peer r ks)) [] 1:=by
 have c1:=Nv (G:=GU) s.ents om 104 (.sl ks.length (ks.map keyM)) (fun e=>decide (e.key∈ks)) (by kernel_rfl) fun e he=>Nx e ks hkl (hs e he) hks
 rw [show (s.ents.filter fun e=> !decide (e.key∈ks))=s.ents.filter (fun e=>decide (e.key ∉ ks)) by congr 1;funext e;simp] at c1
 have hFl:(s.ents.filter fun e=>decide (e.key ∉ ks)).length≤s.ents.length:=c₇ _ _
 have c2:=rZ (G:=GU) raw hraw
 have c3:=tY (G:=GU) raw om
 have c4:=qA (G:=GU) peer
 have c5:=Gs s.app raw ha om
 have hT:kc s (bm raw) raw peer r ks=Mo { s with ents:=s.ents.filter (fun e=>decide (e.key ∉ ks)),cache:=ks.foldl (fun c k=>cL k c) s.cache,app:=fB s.app raw } (bm raw) raw peer r:=rfl
 rw [hT]
 clear hT
 generalize hF:s.ents.filter (fun e=>decide (e.key ∉ ks))=F at *
 generalize bm raw=key at *
 unfold ke at *
 refine bR seat Tryz.func56 71 ?_
 refine ae ?_
 refine bQ rfl (fun _ h=>h) rfl (c1) [(0,0)] [(3,1)] ⟨rfl,mm,rfl,⟨.inr ⟨_,rfl,rfl⟩,Es (.inr ⟨rfl,c₅ 0,rfl,rfl,rfl,rfl⟩),trivial⟩,mm⟩ rfl rfl ?_
 refine Ea ?_
 refine jq ([(1, .sl raw.length (u8s raw)),(2, .int .i64 peer),(5, .ptr 1 25 0 0 []),(8, .ptr 2 5 0 0 []),(9, .ptr 3 1 0 0 []),(10, .ptr 4 25 0 0 [])]) ([(0,⟨64,41,true,0,F.map aA⟩),(1,⟨42,25,false,0,[stE { s with ents:=F } 0]⟩),(2,⟨105,5,false,0,[jy r]⟩),(3,⟨40,1,false,1,[.sl ks.length (ks.map keyM)]⟩),(4,⟨42,25,false,0,[po]⟩)]) (5) (vm [(1,_),(2,_),(3,_),(4,_)] []) ?_
 clear c1
 refine ae ?_
 refine ar (Nat×List (List UInt8)) (fun x=> [(21, .int .i64 x.1),(20, .int .i64 ks.length),(19, .sl ks.length (ks.map keyM)),(1, .sl raw.length (u8s raw)),(2, .int .i64 peer),(5, .ptr 1 25 0 0 []),(8, .ptr 2 5 0 0 []),(10, .ptr 4 25 0 0 [])]) (fun x=> [(0,⟨64,41,true,0,F.map aA⟩),(1,⟨42,25,false,0,[stE { s with ents:=F,cache:=x.2 } 0]⟩),(2,⟨105,5,false,0,[jy r]⟩),(4,⟨42,25,false,0,[po]⟩)]) 5 (fun x=>x.1≤ks.length∧eG x.2∧x.2.length≤1000000∧x.2=(ks.take x.1).foldl (fun c k=>cL k c) s.cache) (fun x=>ks.length - x.1) (0,s.cache) ⟨b₅ _,hck,hcl,rfl⟩ (by dsimp only;exact(vm [(1,_),(2,_),(4,_)] [])) ?_
 rintro⟨k,c⟩ ⟨hk,hc1,hc2,hc3⟩
 try dsimp only
 dsimp only at hk hc1 hc2 hc3
 refine ae ?_
 refine ad rfl ?_ ?_ <;> intro h
 ·have hk':k < ks.length:=by have:=ot h;omega
  have hel:=al.mk (mV hk')
  have hkk:=hks _ (b₀ hk')
  have hnx:=CP ks s.cache hk'
  rw [← hc3] at hnx
  generalize ks[k] =q at *
  have d1:=Er (G:=GU) c q hc2 hkk hc1
  have hp1:eG (cL q c):=fun x hx=>hc1 x (List.mem_filter.1 hx).1
  have hp2:(cL q c).length≤c.length:=c₇ _ _
  generalize cL q c=c' at *
  refine ae ?_
  refine jS (d1) ?_
  exact⟨(k + 1,c'),⟨dm,hp1,dm,hnx.symm⟩,dm,(by dsimp only;exact(vm [(1,_),(2,_),(4,_)] []))⟩
 ·have hk9:k=ks.length:=by have:=oF h;omega
  rw [hk9,b₇] at hc3
  rw [← hc3]
  clear hc3
  refine ae ?_
  refine yv (c5) ?_
  refine Ea ?_
  generalize fB s.app raw=a3 at *
  refine jq ([(1, .sl raw.length (u8s raw)),(2, .int .i64 peer),(5, .ptr 1 25 0 0 []),(8, .ptr 2 5 0 0 []),(10, .ptr 4 25 0 0 [])]) ([(0,⟨64,41,true,0,F.map aA⟩),(1,⟨42,25,false,0,[stE { s with ents:=F,cache:=c,app:=a3 } 0]⟩),(2,⟨105,5,false,0,[jy r]⟩),(4,⟨42,25,false,0,[po]⟩)]) (5) (vm [(1,_),(2,_),(4,_)] []) ?_
  have hra:0≤({ s with ents:=F,cache:=c,app:=a3 }:cY).arr∧({ s with ents:=F,cache:=c,app:=a3 }:cY).arr < 4611686018427387904:=harr
  have hrl:({ s with ents:=F,cache:=c,app:=a3 }:cY).ents=F:=rfl
  generalize ({ s with ents:=F,cache:=c,app:=a3 }:cY)=s3 at *
  subst hrl
  unfold Mo AG
  generalize cZ peer=bp at *
  refine ae ?_
  refine aw [ag 0,de 1,ag 2,de 3,ag 4,ag 5,ag 6,ag 7,ag 8,ag 9,ag 10,ag 11,ag 12,ag 13,ag 14,ag 15,ag 16,ag 17,ag 18,ag 19,ag 20] ?_
  refine ae ?_
  refine dk (c2) ?_
  refine jT (c3) ?_
  refine yv (c4) ?_
  refine rS (List Int) (fun ps=> [(5, .ptr 1 25 0 0 []),(10, .ptr 4 25 0 0 []),(13, .ptr 5 41 0 0 [])]) (fun ps=> [(0,⟨64,41,true,0,s3.ents.map aA⟩),(1,⟨42,25,false,0,[stE s3 0]⟩),(4,⟨42,25,false,0,[po]⟩),(5,⟨64,41,false,0,[aA ⟨key,raw,r.sender,r.seq,r.gas,r.prio,s3.height,s3.time,s3.arr,ps⟩]⟩)]) (fun _=>6) (fun ps=>ps=if bp=true then [peer] else []) (fun JQ hj=>?_) (fun ps hps=>?_)
  ·refine ae ?_
   refine ad rfl ?_ ?_ <;> intro h
   ·refine ae ?_
    exact hj.nrm [peer] (by rw [if_pos h]) (vm [(1,_),(4,_),(5,_)] [(28,1)])
   ·refine ae ?_
    exact hj.nrm [] (by rw [if_neg (by rw [h];simp)]) (vm [(1,_),(4,_),(5,_)] [])
  ·rw [← hps]
   generalize hen:(⟨key,raw,r.sender,r.seq,r.gas,r.prio,s3.height,s3.time,s3.arr,ps⟩:Ent)=en
   obtain⟨W,hW⟩: ∃W,W=s3.ents ++ [en] :=⟨_,rfl⟩
   have hWl:W.length=s3.ents.length + 1:=by rw [hW];simp
   have hW2:W.map aA=s3.ents.map aA ++ [aA en] :=by rw [hW];simp
   rw [← hW]
   clear hW hen
   try dsimp only
   refine ae ?_
   refine aY rfl rfl (by intro R hR;refine dM hR ?_;(refine a₃ (a₈ _) ?_;refine⟨_,rfl,?_⟩;refine a₃ ⟨sm,aE (by kernel_rfl) pf⟩ ?_;refine⟨W.map aA,sv (by rw [hW2];rfl),W.length,sv pf,?_⟩);exact hR) rfl ?_
   refine ae ?_
   refine av ?_
   refine⟨[_],[],[(10,W.length)],rfl,rfl,?_,rfl,⟨?_,trivial⟩,?_⟩
   ·exact⟨by show W.length≤(W.map aA).length;simp,trivial⟩
   ·exact .inr ⟨_,rfl, .inl ⟨rfl,rfl⟩, .inl ⟨rfl,rfl⟩,⟨rfl,rfl⟩,⟨rfl,rfl⟩,⟨rfl,rfl⟩, .inr ⟨rfl,rfl,rfl,d₂ (a₇ _),bT _ _⟩, .inl rfl,trivial⟩
   ·exact mm
end
section
abbrev TE:=Ent×Nat
def kg (x y:TE):Prop:=x.1.prio < y.1.prio∨(x.1.prio=y.1.prio∧(y.1.order < x.1.order∨(x.1.order=y.1.order∧x.2 < y.2)))
instance (x y:TE):Decidable (kg x y):=by unfold kg;infer_instance
theorem dq {x y z:TE} (h:kg x y) (k:kg y z):kg x z:=by unfold kg at *;omega
theorem gK {x y:TE} (h:kg x y) (k:kg y x):False:=by unfold kg at *;omega
theorem befE_t {x y:TE} (h:ee x.1 y.1=true):kg x y:=by unfold ee at h;have:=ot h;unfold kg;omega
theorem my {x y:TE} (h:ee x.1 y.1=false) (hn:y.2 < x.2):kg y x:=by unfold ee at h;have:=oF h;unfold kg;omega
theorem uO {x y:TE} (hn:y.2 < x.2):(ee x.1 y.1=true)↔kg x y:=
 ⟨befE_t,fun h=>by
  cases hb:ee x.1 y.1 with
  | true=>rfl
  | false=>exact (gK h (my hb hn)).elim⟩
def vK (x:TE):List TE→List TE
 | [] => [x]
 | y :: l=>if kg x y then x :: y :: l else y :: vK x l
def eu:List TE→List TE
 | [] => []
 | x :: l=>vK x (eu l)
abbrev gk (l:List TE):Prop:=l.Pairwise kg
abbrev dz (l:List TE):Prop:=l.Pairwise fun x y=>x.2≠y.2
theorem qB (x:TE): ∀l,(vK x l).Perm (x :: l)
 | [] => .refl _
 | y :: l=>by
  unfold vK
  split
  ·exact .refl _
  ·exact((qB x l).cons y).trans (.swap x y l)
theorem bo: ∀l,(eu l).Perm l
 | [] => .refl _
 | x :: l=>(qB x (eu l)).trans ((bo l).cons x)
theorem Bc (x:TE): ∀l,gk l→(∀y∈l,x.2≠y.2)→gk (vK x l)
 | [],_,_=>by simp [vK]
 | y :: l,h,hn=>by
  obtain⟨h1,h2⟩:=a₄.1 h
  unfold vK
  split
  ·rename_i hlt
   exact a₄.2 ⟨fun z hz=>by
    rcases b₄.1 hz with rfl | hz
    ·exact hlt
    ·exact dq hlt (h1 z hz),h⟩
  ·rename_i hlt
   refine a₄.2 ⟨fun z hz=>?_,Bc x l h2 fun z hz=>hn z (by simp [hz])⟩
   rcases b₄.1 ((qB x l).mem_iff.1 hz) with rfl | hz
   ·have:=hn y sm
    unfold kg at hlt ⊢
    omega
   ·exact h1 z hz
theorem jt: ∀l,dz l→gk (eu l)
 | [],_=> .nil
 | x :: l,h=>by
  obtain⟨h1,h2⟩:=a₄.1 h
  exact Bc x _ (jt l h2) fun y hy=>h1 y ((bo l).mem_iff.1 hy)
theorem wT: ∀{l1 l2:List TE},l1.Perm l2→gk l1→gk l2→l1=l2
 | [],l2,h,_,_=>h.nil_eq
 | x :: l1,[],h,_,_=>h.eq_nil
 | x :: l1,y :: l2,h,h1,h2=>by
  obtain⟨a1,a2⟩:=a₄.1 h1
  obtain⟨b1,b2⟩:=a₄.1 h2
  by_cases hxy:x=y
  ·subst hxy
   rw [wT (List.Perm.cons_inv h) a2 b2]
  ·have hx:x∈l2:=by
    rcases b₄.1 (h.mem_iff.1 (e₃ ..)) with h | h
    ·exact absurd h hxy
    ·exact h
   have hy:y∈l1:=by
    rcases b₄.1 (h.mem_iff.2 (e₃ ..)) with h | h
    ·exact absurd h.symm hxy
    ·exact h
   exact(gK (a1 y hy) (b1 x hx)).elim
theorem dz.perm {l1 l2:List TE} (h:l1.Perm l2) (hn:dz l1):dz l2:=h.pairwise hn fun hxy=>Ne.symm hxy
theorem qC {s l:List TE} (hp:s.Perm l) (hs:gk s) (hn:dz l):s=eu l:=wT (hp.trans (bo l).symm) hs (jt l hn)
theorem wU {s l:List TE} (hp:s.Perm l) (hn:dz l):eu s=eu l:=qC ((bo s).trans hp) (jt s (hn.perm hp.symm)) hn
def CQ {α:Type} (t:List α) (i j:Nat):List α:=match t[i]?,t[j]? with
 | some x,some y=>(t.set i y).set j x
 | _,_=>t
theorem Ny {α:Type} {t:List α} {i j:Nat} (hi:i < t.length) (hj:j < t.length):CQ t i j=(t.set i t[j]).set j t[i] :=by
 unfold CQ;simp [hi,hj]
theorem Et {α:Type} (X:List α) (a b:α) (Z:List α):(X ++ a :: Z).set X.length b=X ++ b :: Z:=by
 rw [List.set_append_right _ _ (a₈ _),e₁,List.set_cons_zero]
theorem LJ {α:Type} (X:List α) (a:α) (Y:List α) (b:α) (Z:List α):CQ (X ++ a :: (Y ++ b :: Z)) X.length (X.length + 1 + Y.length)=X ++ b :: (Y ++ a :: Z):=by
 have h1:(X ++ a :: (Y ++ b :: Z))[X.length]? =some a:=sm;have h2:(X ++ a :: (Y ++ b :: Z))[X.length + 1 + Y.length]? =some b:=by
  rw [b₁ om,show X.length + 1 + Y.length - X.length=Y.length + 1 by omega];simp
 unfold CQ;rw [h1,h2]
 show((X ++ a :: (Y ++ b :: Z)).set X.length b).set (X.length + 1 + Y.length) a=_
 rw [Et];have:=Et (X ++ b :: Y) b a Z;simp only [a₆,e₈,a₅,f₀] at this;rw [← this];congr 1;omega
theorem mz {α:Type} {X Y Z:List α} {a b:α} {i j:Nat} (hi:X.length=i) (hj:i + 1 + Y.length=j):CQ (X ++ a :: (Y ++ b :: Z)) i j=X ++ b :: (Y ++ a :: Z):=by
 subst hi;subst hj;exact LJ ..
theorem Bd {α:Type} (t:List α) (i j:Nat):CQ t i j=CQ t j i:=by
 unfold CQ;cases hi:t[i]? with
 | none=>cases hj:t[j]? <;> rfl
 | some x=>
  cases hj:t[j]? with
  | none=>rfl
  | some y=>
   show(t.set i y).set j x=(t.set j x).set i y
   by_cases h:i=j
   ·subst h;rw [hi] at hj;injection hj with hj
    subst hj;rfl
   ·rw [List.set_comm _ _ h]
theorem LK {α:Type} (l:List α) {k:Nat} (h:k≤l.length): ∃A B,l=A ++ B∧A.length=k:=⟨l.take k,l.drop k,(a₂ k l).symm,by simp [h]⟩
theorem Pu {α:Type} (l:List α) {k:Nat} (h:k < l.length): ∃A a B,l=A ++ a :: B∧A.length=k:=⟨l.take k,l[k],l.drop (k + 1),by rw [List.getElem_cons_drop,a₂],by simp;omega⟩
theorem OK {α:Type} (l:List α) {k:Nat} (h:l.length=k + 1): ∃A a,l=A ++ [a] ∧A.length=k:=by
 obtain⟨A,a,B,rfl,hA⟩:=Pu l (k:=k) om;have:B= [] :=b₈.1 (by simp at h;omega);subst this;exact⟨A,a,rfl,hA⟩
def tag:Nat→List Ent→List TE
 | _,[] => []
 | k,e :: l=>(e,k) :: tag (k + 1) l
theorem tag_len: ∀(k:Nat) (l:List Ent),(tag k l).length=l.length
 | _,[] =>rfl
 | k,_ :: l=>by simp [tag,tag_len]
theorem Eu: ∀(k:Nat) (l:List Ent),(tag k l).map (·.1)=l
 | _,[] =>rfl
 | k,e :: l=>by simp [tag,Eu]
theorem CR: ∀(k:Nat) (l:List Ent),∀x∈tag k l,k≤x.2
 | _,[],_,h=>by simp [tag] at h
 | k,e :: l,x,h=>by
  rcases b₄.1 h with rfl | h
  ·exact a₈ _
  ·have:=CR (k + 1) l x h;omega
theorem Jh: ∀(k:Nat) (l:List Ent),(tag k l).Pairwise fun x y=>x.2 < y.2
 | _,[] => .nil
 | k,_e :: l=>a₄.2 ⟨fun x hx=>CR (k + 1) l x hx,Jh (k + 1) l⟩
theorem Be (e:Ent) (k:Nat): ∀(l:List TE),(∀y∈l,k < y.2)→(vK (e,k) l).map (·.1)=nS e (l.map (·.1))
 | [],_=>rfl
 | y :: l,h=>by
  have hk:=h y sm
  unfold vK
  rw [List.map_cons,nS]
  cases hb:ee y.1 e with
  | true=>
   have:kg y (e,k):=befE_t (x:=y) (y:=(e,k)) hb
   rw [if_neg fun h=>gK h this,List.map_cons,Be e k l fun z hz=>h z (by simp [hz])]
   rfl
  | false=>
   have:kg (e,k) y:=my (x:=y) (y:=(e,k)) hb hk
   rw [if_pos this];rfl
theorem yD: ∀(k:Nat) (l:List Ent),(eu (tag k l)).map (·.1)=FJ l
 | _,[] =>rfl
 | k,e :: l=>by
  show(vK (e,k) (eu (tag (k + 1) l))).map (·.1)=nS e (FJ l)
  rw [Be e k _ fun y hy=>CR (k + 1) l y ((bo _).mem_iff.1 hy),yD]
theorem kf {l:List TE} (h:l.Pairwise fun x y=>x.2 < y.2):dz l:=h.imp fun h=>e₄ h
end
section
open Go.RowKit Go.Lib
variable {G:GS}
def Ev (x:TE):MV:=aA x.1
def LL (t:List TE):MB:=⟨64,41,true,0,t.map Ev⟩
def aR (n:Nat) (t:List TE):VM:= [(0,⟨39,1,false,0,[.ms 1 41 0 n]⟩),(1,LL t)]
noncomputable abbrev CS (t:Nat):MV:= .gp Tryz.prog.globals.size t
theorem Ji (t:List TE) {k:Nat} (hk:k < t.length):bH (t.map Ev) k=some (aA t[k].1):=by rw [bD];simp [hk,Ev]
theorem LM (t:List TE) {k:Nat} (e:TE):setL (t.map Ev) k (aA e.1)=(t.set k e).map Ev:=by rw [setL_eq,List.map_set];rfl
theorem Jj (M:VM) (c:Nat) (b:MB):aN (VM.get M) c b=VM.get ((c,b) :: M):=by
 funext x
 show(if x=c then some b else VM.get M x)=bif Nat.beq c x then some b else VM.get M x
 by_cases h:x=c
 ·subst h;rw [Nat.beq_refl x];simp
 ·have:Nat.beq c x=false:=by
   rw [← Bool.not_eq_true];intro h2;exact h (Nat.eq_of_beq_eq_true h2).symm
  simp [h,this]
theorem Jk (n:Nat) (t:List TE) {k:Nat} (e:TE):Dl.appF 2 (.upd 1 ((t.set k e).map Ev)) (VM.get (aR n t))=VM.get (aR n (t.set k e)):=by
 have h:Dl.appF 2 (.upd 1 ((t.set k e).map Ev)) (VM.get (aR n t))=aN (VM.get (aR n t)) 1 (LL (t.set k e)):=rfl;rw [h];funext x
 match x with
 | 0=>simp [aN,VM.get,aR]
 | 1=>rfl
 | x + 2=>rfl
variable {w:World} {P:bC} {adr:dV}
theorem Bf (n:Nat) (t:List TE) {k g:Nat} (hk:k < t.length) (hg:adr 1=some g) (hI:aQ w P adr (VM.get (aR n t))) :
  ∃v,(loadVar 64 ⟨g,k * 41 + 0,none⟩).run Tryz.prog w= .ok v w∧aI w P adr (aA t[k].1) v:=by
 obtain⟨r,v,hK,hrun,hrep⟩:=sy (Pg:=Tryz.prog) (T:=tab) (K:=fun x=>x=(aA t[k].1, .none)) (t:=64) (p:= .ptr 1 41 k 0 []) (m:=VM.get (aR n t)) seat.tab ⟨_,Ji t hk,_,rfl,rfl⟩ (.val [_] (.ptr g hg)) hI
 injection hK with hK
 subst hK
 exact⟨v,hrun,hrep⟩
theorem wV (n:Nat) (t:List TE) (e:TE) {k g:Nat} {v:Value} (hk:k < t.length) (hg:adr 1=some g) (hI:aQ w P adr (VM.get (aR n t))) (hv:aI w P adr (aA e.1) v) :
  ∃w',(storeVar 64 ⟨g,k * 41 + 0,none⟩ v).run Tryz.prog w= .ok () w'∧aQ w' P adr (VM.get (aR n (t.set k e)))∧bg w w' P P adr adr∧bl (fun b=> ∃c,adr c=some b) w w':=by
 obtain⟨δ,w',hK,hrun,h1,h2,h3⟩:=sC (Pg:=Tryz.prog) (T:=tab) (K:=fun x=>x=(.undef, .upd 1 ((t.set k e).map Ev))) (t:=64) (p:= .ptr 1 41 k 0 []) (q:=aA e.1) (m:=VM.get (aR n t)) seat.tab ⟨b₅ _,_,Ji t hk,_,rfl,_,congrArg some (LM t e),rfl⟩ (.val [_] (.ptr g hg)) hv hI 2
 injection hK with _ hK
 subst hK
 rw [Jk] at h1
 exact⟨w',hrun,h1,h2,h3⟩
theorem yE (n:Nat) (t:List TE) (ht:t.length=n) (i j:Nat) (hi:i < n) (hj:j < n):BF Tryz.prog G 214 [.int .i64 i, .int .i64 j, .ms 1 41 0 n,CS 64] (aR n t) 2 (.tup []) (aR n (CQ t i j)) 2:=by
 subst ht;intro w P adr vals hg hI hn hL hargs;cases hargs with | cons a1 hargs=>cases hargs with | cons a2 hargs=>cases hargs with | cons a3 hargs=>cases hargs with | cons a4 hargs=>
 cases hargs;have e1:=a1.int_;have e2:=a2.int_;have e4:=a4.gp_;subst e1 e2 e4;rcases a3.ms_ with ⟨_,_,h0⟩ | ⟨g,o,cap,h1,rfl,h2,h3,h4,_⟩
 ·omega
 have h2:o=0:=by simpa using h2 (.inr rfl)
 subst h2;obtain⟨x,lx,rx⟩:=Bf _ t hi h1 hI;obtain⟨y,ly,ry⟩:=Bf _ t hj h1 hI;obtain⟨w1,s1,i1,k1,c1⟩:=wV _ t t[j] hi h1 hI ry;obtain⟨w2,s2,i2,k2,c2⟩:=wV _ (t.set i t[j]) t[i] (k:=j) (by simpa using hj) h1 i1 (rx.keep k1);rw [← Ny hi hj] at i2;refine⟨.tuple #[],w2,?_,_,rfl,P,adr,i2, .tup [] rfl (fun j m u h=>by simp at h),k1.trans k2,fun _ _=>rfl,hn,fun c g hc=> .inr ⟨c,hc⟩,fun b o ho=> .inl ho,c1.step c2 fun b h=> .inl h⟩;have hf:(callFunc 214 #[.int .i64 i, .int .i64 j, .slice (some ⟨g,0,none⟩) t.length cap,typeHandle Tryz.prog 64]).run Tryz.prog w=_:=
  run_callFunc_extern Tryz.func214 (by kernel_rfl) (by kernel_rfl) (by kernel_rfl) (e:=Extern.ReflectliteSwapper.swap false) (by kernel_rfl) _ w
 refine hf.trans ?_;have i0: ¬ ((i:Int) < 0):=om;have i1: ¬ ((i:Int) ≥ t.length):=om;have j0: ¬ ((j:Int) < 0):=om;have j1: ¬ ((j:Int) ≥ t.length):=om;have hs: ∀w,(sizeOf 64).run Tryz.prog w= .ok 41 w:=fun w=>by kernel_rfl
 simp only [Nat.add_zero] at lx ly s1 s2;have p1:(⟨g,0,none⟩:Addr).add (i * 41)=⟨g,i * 41,none⟩:=by simp [Addr.add_lit]
 have p2:(⟨g,0,none⟩:Addr).add (j * 41)=⟨g,j * 41,none⟩:=by simp [Addr.add_lit]
 rw [rl_swap];simp [i0,i1,j0,j1,Extern.Rtype.ofHandle,handleType,typeHandle,Extern.ReflectliteSwapper.exchange,hs,p1,p2,lx,ly,s1,s2,Result.andThen]
end
section
variable {G:GS}
theorem Jl (t:List TE) {k:Nat} (hk:k < t.length):bH (t.map Ev) (0 + k)=some (aA t[k].1):=by rw [Nat.zero_add];exact Ji t hk
theorem Nz (n:Nat) (t:List TE) (ht:t.length=n) (i j:Nat) (hi:i < n) (hj:j < n):aH Tryz.prog G 144 [.int .i64 i, .int .i64 j, .ptr 0 1 0 0 []] (aR n t) 2 (.bool (ee (t[i]'om).1 (t[j]'om).1)) (aR n t) 2:=by
 have hi':i < t.length:=om;have hj':j < t.length:=om;unfold ee;have r1:=al.mk (Jl t hi');have r2:=al.mk (Jl t hj');generalize t[i].1=x at *;generalize t[j].1=y at *;obtain⟨x1,x2,x3,x4,x5,x6,x7,x8,x9,x10⟩:=x;obtain⟨y1,y2,y3,y4,y5,y6,y7,y8,y9,y10⟩:=y;unfold aA at r1 r2;unfold aR LL at *;dsimp only at *;generalize t.map Ev=Z at *;refine bR seat Tryz.func144 39 ?_;refine ae ?_;refine aw [ag 0,ag 1,ag 2,ag 3,ag 4,ag 5,ag 6,ag 7,ag 8,ag 9,ag 10] ?_;refine ae ?_;refine ad rfl ?_ ?_ <;> intro h
 ·have hp:x6≠y6:=by simpa using h
  refine ae ?_;refine aw [ag 0,ag 1,ag 2,ag 3,ag 4,ag 5,ag 6,ag 7,ag 8,ag 9,ag 10,ag 11] ?_;refine ae ?_;refine⟨[_],[],[],rfl,rfl,trivial,rfl,⟨?_,trivial⟩,?_⟩
  ·exact⟨congrArg MV.bool (decide_eq_decide.2 om),rfl⟩
  ·exact mm
 ·have hp:x6=y6:=by simpa using h
  refine ae ?_;refine aw [ag 0,ag 1,ag 2,ag 3,ag 4,ag 5,ag 6,ag 7,ag 8,ag 9,ag 10,ag 11] ?_;refine ae ?_;refine⟨[_],[],[],rfl,rfl,trivial,rfl,⟨?_,trivial⟩,?_⟩
  ·exact⟨congrArg MV.bool (decide_eq_decide.2 om),rfl⟩
  ·exact mm
noncomputable abbrev dL (n:Nat):MV:= .st [.fn 144 [.ptr 0 1 0 0 []], .fn 214 [.ms 1 41 0 n,CS 64]]
theorem rel_data {l:List (Nat×Nat)} {fz:Fz} {n:Nat}:cN (bZ 2 l) fz (dL n) (dL n):= .inr ⟨_,rfl, .inr ⟨_,rfl,⟨0,rfl,rfl⟩,trivial⟩, .inr ⟨_,rfl, .inr ⟨1,rfl,rfl⟩,⟨rfl,rfl⟩,trivial⟩,trivial⟩
theorem nk {p:Prop} (h:p:=by (repeat(first | exact trivial | refine⟨.inr ⟨_,_,rfl,rfl,rfl,rfl, .inl rfl, .inl rfl, .inl ⟨rfl,rfl⟩⟩,?_⟩ | refine⟨.inr ⟨_,_,rfl,rfl,rfl,rfl, .inl rfl, .inl rfl, .inr ⟨rel_data,trivial⟩⟩,?_⟩ | refine⟨.inr ⟨_,_,rfl,rfl,rfl,rfl, .inl rfl, .inl rfl, .inr ⟨rv,trivial⟩⟩,?_⟩));first | done | fail):p:=h
theorem Gu (P A Q B S:List TE) (h:B.length=A.length) (i:Nat) (hi:i < A.length) :
  CQ (P ++ ((B.take i ++ A.drop i) ++ (Q ++ ((A.take i ++ B.drop i) ++ S)))) (P.length + i) (P.length + A.length + Q.length + i)=P ++ ((B.take (i + 1) ++ A.drop (i + 1)) ++ (Q ++ ((A.take (i + 1) ++ B.drop (i + 1)) ++ S))):=by
 have hb:i < B.length:=om
 have e1:=b₂ hi
 have e2:=b₂ hb
 have:=mz (X:=P ++ B.take i) (Y:=A.drop (i + 1) ++ (Q ++ A.take i)) (Z:=B.drop (i + 1) ++ S) (a:=A[i]) (b:=B[i]) (i:=P.length + i) (j:=P.length + A.length + Q.length + i) (by simp;omega) (by simp;omega)
 rw [e1,e2,a₀ hi,a₀ hb]
 simp only [a₅,f₀,b₆] at this ⊢
 exact this
theorem mA (n:Nat) (hN:n < 4611686018427387904) (P A Q B S:List TE) (hB:B.length=A.length) (x y k:Nat) (hx:P.length=x) (hy:x + k + Q.length=y) (hk:A.length=k) (hn:y + k + S.length=n) :
  aH Tryz.prog G 251 [dL n, .int .i64 x, .int .i64 y, .int .i64 k] (aR n (P ++ (A ++ (Q ++ (B ++ S))))) 2 (.tup []) (aR n (P ++ (B ++ (Q ++ (A ++ S))))) 2:=by
 refine bR seat Tryz.func251 23 ?_
 refine ae ?_
 refine ar Nat (fun i=> [(8, .int .i64 i),(4, .ptr 2 2 0 0 []),(3, .int .i64 k),(2, .int .i64 y),(1, .int .i64 x)]) (fun i=>aR n (P ++ ((B.take i ++ A.drop i) ++ (Q ++ ((A.take i ++ B.drop i) ++ S)))) ++ [(2,⟨229,2,false,0,[dL n]⟩)]) 3 (fun i=>i≤k) (fun i=>k - i) 0 (b₅ _) (vm [(2,_)] [] (h2:=by exact nk)) ?_
 intro i hi
 try dsimp only
 refine ae ?_
 refine ad rfl ?_ ?_ <;> intro h
 ·have hi':i < k:=by have:=ot h;omega
  have hst:=Gu P A Q B S hB i om
  rw [hx,hk,hy] at hst
  have hlen:(P ++ ((B.take i ++ A.drop i) ++ (Q ++ ((A.take i ++ B.drop i) ++ S)))).length=n:=by simp;omega
  generalize P ++ ((B.take i ++ A.drop i) ++ (Q ++ ((A.take i ++ B.drop i) ++ S)))=t at *
  have hsw:=yE (G:=G) n t hlen (x + i) (y + i) om om
  rw [f₃,f₃] at hsw
  refine ae ?_
  refine dG rfl (fun _ h=>h) rfl (hsw) [(0,0),(1,1)] [] ⟨rfl,trivial,rfl,lm,mm⟩ rfl rfl ?_
  refine ae ?_
  exact⟨i + 1,by show i + 1≤k;omega,by show k - (i + 1) < k - i;omega,by dsimp only;rw [← hst];exact(vm [(2,_)] [] (h2:=by exact nk))⟩
 ·have hi':i=k:=by have:=oF h;omega
  subst hi'
  rw [← hk,d₃,← hB,d₃,b₇,hB,b₇,b₉,b₉]
  refine ae ?_
  exact en []
end
section
variable {G:GS}
structure P4 where
 P:List TE
 L:List TE
 R:List TE
 S:List TE
theorem Jm (n:Nat) (hN:n < 2305843009213693952) (P L R S:List TE) (a m b:Nat) (hP:P.length=a) (hL:a + L.length=m) (hR:m + R.length=b) (hS:b + S.length=n) (hl:0 < L.length) (hr:0 < R.length) :
    aH Tryz.prog G 243 [dL n, .int .i64 a, .int .i64 m, .int .i64 b] (aR n (P ++ (L ++ (R ++ S)))) 2 (.tup []) (aR n (P ++ (R ++ (L ++ S)))) 2:=by
  refine bR seat Tryz.func243 53 ?_
  refine ae ?_
  refine ar P4 (fun x=> [(9, .int .i64 x.R.length),(8, .int .i64 x.L.length),(4, .ptr 2 2 0 0 []),(2, .int .i64 m)]) (fun x=>aR n (x.P ++ (x.L ++ (x.R ++ x.S))) ++ [(2,⟨229,2,false,0,[dL n]⟩)]) 3
    (fun x=>x.P ++ (x.R ++ (x.L ++ x.S))=P ++ (R ++ (L ++ S))∧x.P.length + x.L.length=m∧m + x.R.length + x.S.length=n∧0 < x.L.length∧0 < x.R.length) (fun x=>x.L.length + x.R.length) ⟨P,L,R,S⟩ ⟨rfl,by show P.length + L.length=m;omega,by show m + R.length + S.length=n;omega,hl,hr⟩ (by
      dsimp only
      have e1:((b:Int) - m)=(R.length:Int):=om
      have e2:((m:Int) - a)=(L.length:Int):=om
      rw [← e1,← e2]
      exact(vm [(2,_)] [] (h2:=by exact nk))) ?_
  rintro⟨P1,L1,R1,S1⟩ ⟨hT,h1,h2,h3,h4⟩
  try dsimp only
  dsimp only at hT h1 h2 h3 h4
  rw [← hT]
  clear hT hP hL hR hS hl hr
  generalize hi:L1.length=i at *
  generalize hj:R1.length=j at *
  refine ae ?_
  refine ad rfl ?_ ?_ <;> intro h
  · have hne:i≠j:=by
      have: ¬ ((i:Int)=j):=(by simpa using h)
      omega
    refine ae ?_
    refine ad rfl ?_ ?_ <;> intro h
    · have hlt:j < i:=by have:=ot h;omega
      obtain⟨A,B,rfl,hA⟩:=LK L1 (k:=j) om
      rw [a₆] at hi
      have hw:=mA (G:=G) n om P1 A B R1 S1 om P1.length m j rfl om hA om
      have e1:((m:Int) - (i:Int))=(P1.length:Int):=om
      refine ae ?_
      rw [e1]
      refine yc (hw) [(0,0),(1,1)] ?_
      refine ae ?_
      refine⟨⟨P1 ++ R1,B,A,S1⟩,⟨sm,by show(P1 ++ R1).length + B.length=m;rw [a₆];omega,by show m + A.length + S1.length=n;omega,by show 0 < B.length;omega,by show 0 < A.length;omega⟩,by dsimp only;rw [a₆];omega,?_⟩
      dsimp only
      rw [a₅]
      exact(vm [(2,_)] [] (h2:=by exact nk))
    · have hlt:i < j:=by have:=oF h;omega
      obtain⟨A,B,rfl,hA⟩:=LK R1 (k:=j - i) om
      rw [a₆] at hj
      have hw:=mA (G:=G) n om P1 L1 A B S1 om P1.length (m + j - i) i rfl om om om
      refine ae ?_
      refine yc (hw) [(0,0),(1,1)] ?_
      refine ae ?_
      refine⟨⟨P1,B,A,L1 ++ S1⟩,⟨sm,by show P1.length + B.length=m;omega,by show m + A.length + (L1 ++ S1).length=n;rw [a₆];omega,by show 0 < B.length;omega,by show 0 < A.length;omega⟩,by dsimp only;rw [a₆];omega,?_⟩
      exact(by(try dsimp only);exact vm [(2,_)] [] (h2:=by exact nk))
  · have hne:i=j:=by
      have:(i:Int)=j:=(by simpa using h)
      omega
    subst hne
    have hw:=mA (G:=G) n om P1 L1 [] R1 S1 om P1.length m i rfl (by show P1.length + i + 0=m;omega) hi om
    refine ae ?_
    refine yc (hw) [(0,0),(1,1)] ?_
    refine ae ?_
    exact en []
end
section
variable {G:GS}
abbrev k8 (l:List TE):Prop:=l.Pairwise fun x y=>x.2 < y.2
theorem gL {R:TE→TE→Prop} {l1 l2:List TE}:(l1 ++ l2).Pairwise R↔l1.Pairwise R∧l2.Pairwise R∧∀x∈l1,∀y∈l2,R x y:=c₉
theorem Bg {A L R:List TE} {e:TE} {k:Nat} (hk:k < A.length) (he:A[k] =e) (hA:k8 A) (hS:eu (A.take k)=L ++ R) (hR: ∀r∈R,kg e r) (hL: ∀L' z,L=L' ++ [z] →ee e.1 z.1=false) :
  L ++ e :: R=eu (A.take (k + 1)):=by
 have e1:=a₀ hk
 rw [he] at e1
 have htk:k8 (A.take (k + 1)):=hA.sublist (e₇ _ _)
 have hs:=jt (A.take k) (kf (hA.sublist (e₇ _ _)))
 rw [hS] at hs
 obtain⟨s1,s2,s3⟩:=gL.1 hs
 have hp:(L ++ e :: R).Perm (A.take (k + 1)):=by
  have h1:(L ++ R).Perm (A.take k):=hS▸bo _
  have h2:(L ++ e :: R).Perm (e :: (L ++ R)):=d₄
  rw [e1]
  exact(h2.trans (h1.cons e)).trans (d₁ e _).symm
 refine qC hp (gL.2 ⟨s1,a₄.2 ⟨hR,s2⟩,fun x hx y hy=>?_⟩) (kf htk)
 have hxe:kg x e:=by
  rcases d₇ L with rfl | ⟨L',z,rfl⟩
  ·cases hx
  ·rw [d₈] at *
   have hz:kg z e:=by
    refine my (hL L' z rfl) ?_
    have hm:z∈A.take k:=(bo _).mem_iff.1 (hS▸by simp)
    rw [e1] at htk
    exact(gL.1 htk).2.2 z hm e sm
   rcases d₆.1 hx with h | h
   ·exact dq ((gL.1 s1).2.2 x h z sm) hz
   ·rw [e₅.1 h];exact hz
 rcases b₄.1 hy with rfl | hy
 ·exact hxe
 ·exact dq hxe (hR y hy)
theorem yF {A:List TE} (h:A.length≤1):eu A=A:=by
 match A,h with
 | [],_=>rfl
 | [x],_=>rfl
 | _ :: _ :: _,h=>simp at h
theorem pH (n:Nat) (t:List TE) (ht:t.length=n) (i j:Nat) {x y:TE} (hx:t[i]? =some x) (hy:t[j]? =some y):aH Tryz.prog G 144 [.int .i64 i, .int .i64 j, .ptr 0 1 0 0 []] (aR n t) 2 (.bool (ee x.1 y.1)) (aR n t) 2:=by
 obtain⟨h1,rfl⟩:=a₁.1 hx;obtain⟨h2,rfl⟩:=a₁.1 hy;exact Nz n t ht i j om om
theorem yG {X Z:List TE} {a:TE} {i:Nat} (hi:X.length=i):(X ++ a :: Z)[i]? =some a:=by subst hi;simp
theorem rz (n:Nat) (hN:n < 2305843009213693952) (P A S:List TE) (a b:Nat) (hP:P.length=a) (hb:a + A.length=b) (hS:b + S.length=n) (hA:k8 A) :
  aH Tryz.prog G 215 [dL n, .int .i64 a, .int .i64 b] (aR n (P ++ (A ++ S))) 2 (.tup []) (aR n (P ++ (eu A ++ S))) 2:=by
 have h0:P ++ (A ++ S)=P ++ (eu (A.take 1) ++ (A.drop 1 ++ S)):=by
  rw [yF (A:=A.take 1) (by simp;omega),← a₅ (A.take 1),a₂]
 rw [h0]
 refine bR seat Tryz.func215 35 ?_
 refine ae ?_
 refine ar Nat (fun k=> [(6, .int .i64 ((a:Int) + k)),(3, .ptr 2 2 0 0 []),(2, .int .i64 b),(1, .int .i64 a)]) (fun k=>aR n (P ++ (eu (A.take k) ++ (A.drop k ++ S))) ++ [(2,⟨229,2,false,0,[dL n]⟩)]) 3 (fun k=>1≤k∧(k≤A.length∨k=1)) (fun k=>A.length - k) 1 ⟨om, .inr rfl⟩ (vm [(2,_)] [] (h2:=by exact nk)) ?_
 rintro k ⟨hk1,hk2⟩
 try dsimp only
 refine ae ?_
 refine ad rfl ?_ ?_ <;> intro h
 ·have hk:k < A.length:=by have:=ot h;omega
  rw [b₂ hk]
  refine ae ?_
  refine ar (List TE×List TE) (fun x=> [(7, .int .i64 ((a:Int) + x.1.length)),(6, .int .i64 ((a:Int) + k)),(3, .ptr 2 2 0 0 []),(2, .int .i64 b),(1, .int .i64 a)]) (fun x=>aR n (P ++ (x.1 ++ (A[k] :: (x.2 ++ (A.drop (k + 1) ++ S))))) ++ [(2,⟨229,2,false,0,[dL n]⟩)]) 3 (fun x=>eu (A.take k)=x.1 ++ x.2∧∀r∈x.2,kg A[k] r) (fun x=>x.1.length) (eu (A.take k),[]) ⟨sm,sm⟩ ?_ ?_
  ·have hl:(eu (A.take k)).length=k:=by rw [(bo _).length_eq];simp;omega
   try dsimp only
   rw [hl,b₆]
   exact(vm [(2,_)] [] (h2:=by exact nk))
  rintro⟨L,R⟩ ⟨hs,hR⟩
  try dsimp only
  dsimp only at hs hR
  have hlen:L.length + R.length=k:=by
   have:=congrArg List.length hs
   rw [(bo _).length_eq,a₆] at this
   simp at this;omega
  have hlt:(P ++ (L ++ (A[k] :: (R ++ (A.drop (k + 1) ++ S))))).length=n:=by simp;omega
  generalize hE:A[k] =e at *
  rcases d₇ L with rfl | ⟨L,z,rfl⟩
  ·have hd:=Bg hk hE hA hs hR (fun L' z h=>by simp at h)
   have hc:P ++ ([] ++ (e :: (R ++ (A.drop (k + 1) ++ S))))=P ++ (eu (A.take (k + 1)) ++ (A.drop (k + 1) ++ S)):=by rw [← hd];simp
   rw [hc]
   refine ae ?_
   refine ah rfl rfl ?_ rfl ?_ <;> intro h
   ·exfalso
    have:=ot h
    simp at this
   ·refine ae ?_
    exact⟨k + 1,⟨by omega, .inl hk⟩,by show A.length - (k + 1) < A.length - k;omega,(by(try dsimp only);exact vm [(2,_)] [] (h2:=by exact nk))⟩
  ·rw [d₈] at *
   have hj:(L ++ [z]).length=L.length + 1:=sm
   rw [hj] at hlen ⊢
   have hx1:(P ++ ((L ++ [z]) ++ (e :: (R ++ (A.drop (k + 1) ++ S)))))[a + (L.length + 1)]? =some e:=by
    rw [← a₅];exact yG (by simp;omega)
   have hx2:(P ++ ((L ++ [z]) ++ (e :: (R ++ (A.drop (k + 1) ++ S)))))[a + L.length]? =some z:=by
    rw [a₅,← a₅];exact yG (by simp;omega)
   have hsw:CQ (P ++ ((L ++ [z]) ++ (e :: (R ++ (A.drop (k + 1) ++ S))))) (a + (L.length + 1)) (a + L.length)=P ++ (L ++ (e :: ((z :: R) ++ (A.drop (k + 1) ++ S)))):=by
    rw [Bd]
    have:=mz (X:=P ++ L) (Y:= []) (Z:=R ++ (A.drop (k + 1) ++ S)) (a:=z) (b:=e) (i:=a + L.length) (j:=a + (L.length + 1)) (by simp;omega) (by simp;omega)
    simpa using this
   have hless:=pH (G:=G) n _ hlt _ _ hx1 hx2
   have hswap:=yE (G:=G) n _ hlt (a + (L.length + 1)) (a + L.length) om om
   rw [hsw] at hswap
   refine ae ?_
   refine ah rfl rfl ?_ rfl ?_ <;> intro h
   ·refine ae ?_
    refine yc (hless) [(0,0),(1,1)] ?_
    refine ae ?_
    refine ad rfl ?_ ?_ <;> intro h
    ·refine ae ?_
     refine dG rfl (fun _ h=>h) rfl (hswap) [(0,0),(1,1)] [] ⟨rfl,trivial,rfl,lm,mm⟩ rfl rfl ?_
     refine ae ?_
     exact⟨(L,z :: R),⟨by rw [hs];simp,fun r hr=>by
      rcases b₄.1 hr with rfl | hr
      ·exact befE_t h
      ·exact hR r hr⟩,by dsimp only;rw [a₆];simp,(by(try dsimp only);exact vm [(2,_)] [] (h2:=by exact nk))⟩
    ·have hd:=Bg hk hE hA hs hR (fun L' z' hz=>by
      have:=List.append_inj_right' hz rfl
      injection this with this
      subst this
      exact h)
     have hc:P ++ ((L ++ [z]) ++ (e :: (R ++ (A.drop (k + 1) ++ S))))=P ++ (eu (A.take (k + 1)) ++ (A.drop (k + 1) ++ S)):=by rw [← hd];simp
     rw [hc]
     refine ae ?_
     exact⟨k + 1,⟨by omega, .inl hk⟩,by show A.length - (k + 1) < A.length - k;omega,(by(try dsimp only);exact vm [(2,_)] [] (h2:=by exact nk))⟩
   ·exfalso
    have:=oF h
    omega
 ·have hk:A.length≤k:=by have:=oF h;omega
  rw [c₀ hk,List.drop_eq_nil_of_le hk,b₆]
  refine ae ?_
  exact en []
end
section
theorem LN {A B:List TE} (h: ∀x∈A,∀y∈B,kg x y) (hn:dz (A ++ B)):eu (A ++ B)=eu A ++ eu B:=by
 have hn':=hn;obtain⟨n1,n2,_⟩:=c₉.1 hn;refine(qC ((bo A).append (bo B)) (gL.2 ⟨jt A n1,jt B n2,fun x hx y hy=>h x ((bo A).mem_iff.1 hx) y ((bo B).mem_iff.1 hy)⟩) hn').symm
theorem yH {A:List TE} (h:gk A) (hn:dz A):eu A=A:=(qC (.refl _) h hn).symm
theorem NA {R:TE→TE→Prop} {l:List TE} (h:l.Pairwise R) {i j:Nat} {x y:TE} (hx:l[i]? =some x) (hy:l[j]? =some y) (hij:i < j):R x y:=by
 obtain⟨h1,rfl⟩:=a₁.1 hx;obtain⟨h2,rfl⟩:=a₁.1 hy;exact List.pairwise_iff_getElem.1 h i j h1 h2 hij
theorem nz {l:List TE} (h:gk l) {i j:Nat} {x y:TE} (hx:l[i]? =some x) (hy:l[j]? =some y) (hij:i≤j):x=y∨kg x y:=by
 rcases Nat.lt_or_ge i j with h1 | h1
 ·exact .inr (NA h hx hy h1)
 ·have:i=j:=om;subst this;rw [hx] at hy;injection hy with hy
  exact .inl hy
theorem dN {l:List TE} {i:Nat} (h:i < l.length): ∃x,l[i]? =some x:=⟨l[i],by simp [h]⟩
theorem mC {l:List TE} {i:Nat} {x:TE} (h:l[i]? =some x):x∈l:=List.mem_of_getElem? h
def gB (A B:List TE) (u v:Nat):Bool:=match A[u]?,B[v]? with
 | some x,some y=>ee y.1 x.1
 | _,_=>false
theorem wW {A B:List TE} {u v:Nat} {x y:TE} (hx:A[u]? =some x) (hy:B[v]? =some y):gB A B u v=ee y.1 x.1:=by unfold gB;rw [hx,hy]
theorem r7 {A B:List TE} (hA:gk A) (hB:gk B) (ht: ∀x∈A,∀y∈B,x.2 < y.2) {u v u' v':Nat} (hu:u≤u') (hv:v'≤v) (h1:u' < A.length) (h2:v < B.length) (hg:gB A B u v=true):gB A B u' v'=true:=by
 obtain⟨x,hx⟩:=dN (l:=A) (i:=u) om;obtain⟨x',hx'⟩:=dN h1;obtain⟨y,hy⟩:=dN h2;obtain⟨y',hy'⟩:=dN (l:=B) (i:=v') om;rw [wW hx hy] at hg;rw [wW hx' hy'];have h3:=befE_t hg;have h4:kg y' x':=by
  have h5:kg y' x:=by
   rcases nz hB hy' hy hv with rfl | h
   ·exact h3
   ·exact dq h h3
  rcases nz hA hx hx' hu with rfl | h
  ·exact h5
  ·exact dq h5 h
 exact(uO (ht _ (mC hx') _ (mC hy'))).2 h4
theorem LO {A B:List TE} (hA:gk A) (hB:gk B) (ht: ∀x∈A,∀y∈B,x.2 < y.2) {u v:Nat} (hu:u≤A.length) (hv:v≤B.length)
  (h1:0 < u→v < B.length→gB A B (u - 1) v=false) (h2:u < A.length→0 < v→gB A B u (v - 1)=true) :
  ∀x∈A.take u ++ B.take v,∀y∈A.drop u ++ B.drop v,kg x y:=by
 have sA:=(a₂ u A).symm
 have sB:=(a₂ v B).symm
 have pA:=hA
 rw [sA] at pA
 have pB:=hB
 rw [sB] at pB
 intro x hx y hy
 rcases d₆.1 hx with hx | hx <;> rcases d₆.1 hy with hy | hy
 ·exact(gL.1 pA).2.2 x hx y hy
 ·obtain⟨i,hi,hxi⟩:=a₉.1 hx
  obtain⟨j,hj,hyj⟩:=a₉.1 hy
  simp at hi hj
  obtain⟨x1,hx1⟩:=dN (l:=A) (i:=u - 1) om
  obtain⟨y1,hy1⟩:=dN (l:=B) (i:=v) om
  have hg:=h1 om om
  rw [wW hx1 hy1] at hg
  have hlt:kg x1 y1:=my hg (ht _ (mC hx1) _ (mC hy1))
  have ex:A[i]? =some x:=by rw [← hxi];simp
  have ey:B[v + j]? =some y:=by rw [← hyj];simp
  have q1:x=x1∨kg x x1:=nz hA ex hx1 om
  have q2:y1=y∨kg y1 y:=nz hB hy1 ey om
  have q3:kg x y1:=by
   rcases q1 with rfl | h
   ·exact hlt
   ·exact dq h hlt
  rcases q2 with rfl | h
  ·exact q3
  ·exact dq q3 h
 ·obtain⟨i,hi,hxi⟩:=a₉.1 hx
  obtain⟨j,hj,hyj⟩:=a₉.1 hy
  simp at hi hj
  obtain⟨x1,hx1⟩:=dN (l:=A) (i:=u) om
  obtain⟨y1,hy1⟩:=dN (l:=B) (i:=v - 1) om
  have hg:=h2 om om
  rw [wW hx1 hy1] at hg
  have hlt:kg y1 x1:=befE_t hg
  have ex:B[i]? =some x:=by rw [← hxi];simp
  have ey:A[u + j]? =some y:=by rw [← hyj];simp
  have q1:x=y1∨kg x y1:=nz hB ex hy1 om
  have q2:x1=y∨kg x1 y:=nz hA hx1 ey om
  have q3:kg x x1:=by
   rcases q1 with rfl | h
   ·exact hlt
   ·exact dq h hlt
  rcases q2 with rfl | h
  ·exact q3
  ·exact dq q3 h
 ·exact(gL.1 pB).2.2 x hx y hy
theorem wX {α:Type} (a b c d:List α):((a ++ c) ++ (b ++ d)).Perm ((a ++ b) ++ (c ++ d)):=by
 simp only [a₅];refine List.Perm.append_left a ?_;rw [← a₅,← a₅];exact List.Perm.append_right d List.perm_append_comm
theorem LP {A B:List TE} (hA:gk A) (hB:gk B) (ht: ∀x∈A,∀y∈B,x.2 < y.2) (hn:dz (A ++ B)) {u v:Nat} (hu:u≤A.length) (hv:v≤B.length)
  (h1:0 < u→v < B.length→gB A B (u - 1) v=false) (h2:u < A.length→0 < v→gB A B u (v - 1)=true) :
  eu (A ++ B)=eu (A.take u ++ B.take v) ++ eu (A.drop u ++ B.drop v):=by
 have hp:((A.take u ++ B.take v) ++ (A.drop u ++ B.drop v)).Perm (A ++ B):=by
  have:=wX (A.take u) (A.drop u) (B.take v) (B.drop v)
  rwa [a₂,a₂] at this
 rw [← wU hp hn]
 exact LN (LO hA hB ht hu hv h1 h2) (hn.perm hp.symm)
end
section
variable {G:GS}
theorem Jn {x:TE} {B:List TE} (hB:gk B) (ht: ∀y∈B,x.2 < y.2) (hn:dz B) {k:Nat} (h1: ∀q y,B[q]? =some y→q < k→ee y.1 x.1=true) (h2: ∀q y,B[q]? =some y→k≤q→ee y.1 x.1=false) :
  B.take k ++ x :: B.drop k=eu (x :: B):=by
 have hn':dz (x :: B):=a₄.2 ⟨fun y hy=>e₄ (ht y hy),hn⟩
 have hp:(B.take k ++ x :: B.drop k).Perm (x :: B):=by
  have:=(d₄ (a:=x) (l₁:=B.take k) (l₂:=B.drop k))
  rwa [a₂] at this
 have hB':=hB
 rw [← a₂ k B] at hB'
 obtain⟨s1,s2,s3⟩:=gL.1 hB'
 have lx: ∀y∈B.take k,kg y x:=fun y hy=>by
  obtain⟨i,hi,rfl⟩:=a₉.1 hy
  simp at hi
  exact befE_t (h1 i _ sm om)
 have rx: ∀y∈B.drop k,kg x y:=fun y hy=>by
  have hm:=List.mem_of_mem_drop hy
  obtain⟨i,hi,rfl⟩:=a₉.1 hy
  simp at hi
  exact my (h2 (k + i) _ sm om) (ht _ hm)
 exact qC hp (gL.2 ⟨s1,a₄.2 ⟨rx,s2⟩,fun z hz y hy=>by
  rcases b₄.1 hy with rfl | hy
  ·exact lx z hz
  ·exact s3 z hz y hy⟩) hn'
theorem Gv {y:TE} {A:List TE} (hA:gk A) (ht: ∀z∈A,z.2 < y.2) (hn:dz A) {k:Nat} (h1: ∀q z,A[q]? =some z→q < k→ee y.1 z.1=false) (h2: ∀q z,A[q]? =some z→k≤q→ee y.1 z.1=true) :
  A.take k ++ y :: A.drop k=eu (A ++ [y]):=by
 have hn':dz (A ++ [y]):=c₉.2 ⟨hn,sm,fun z hz w hw=>by rw [e₅.1 hw];exact e₄ (ht z hz)⟩
 have hp:(A.take k ++ y :: A.drop k).Perm (A ++ [y]):=by
  have:=(d₄ (a:=y) (l₁:=A.take k) (l₂:=A.drop k))
  rw [a₂] at this
  exact this.trans (d₁ y A).symm
 have hA':=hA
 rw [← a₂ k A] at hA'
 obtain⟨s1,s2,s3⟩:=gL.1 hA'
 have lx: ∀z∈A.take k,kg z y:=fun z hz=>by
  have hm:=List.mem_of_mem_take hz
  obtain⟨i,hi,rfl⟩:=a₉.1 hz
  simp at hi
  exact my (h1 i _ sm om) (ht _ hm)
 have rx: ∀z∈A.drop k,kg y z:=fun z hz=>by
  obtain⟨i,hi,rfl⟩:=a₉.1 hz
  simp at hi
  exact befE_t (h2 (k + i) _ sm om)
 exact qC hp (gL.2 ⟨s1,a₄.2 ⟨rx,s2⟩,fun z hz w hw=>by
  rcases b₄.1 hw with rfl | hw
  ·exact lx z hz
  ·exact s3 z hz w hw⟩) hn'
theorem uP (p q:Nat):(((p:Int) + (q:Int)).fdiv (2 ^ (min (1:Int).toNat IntKind.u64.bits)))=(((p + q) / 2:Nat):Int):=by
 rw [show (2:Int) ^ min (1:Int).toNat IntKind.u64.bits=2 by rfl,Int.fdiv_eq_ediv_of_nonneg _ om];omega
theorem NB (n:Nat) (hN:n < 1152921504606846976) (P B S:List TE) (x:TE) (a b:Nat) (hP:P.length=a) (hb:a + 1 + B.length=b) (hS:b + S.length=n) (hB:gk B) (ht: ∀y∈B,x.2 < y.2) (hn:dz B) :
  aH Tryz.prog G 216 [dL n, .int .i64 a, .int .i64 ((a + 1:Nat):Int), .int .i64 b] (aR n (P ++ (x :: (B ++ S)))) 2 (.tup []) (aR n (P ++ (eu (x :: B) ++ S))) 2:=by
 have hlen:(P ++ (x :: (B ++ S))).length=n:=by simp;omega
 refine bR seat Tryz.func216 177 ?_
 refine ae ?_
 refine ad rfl (fun hd=>?_) (fun hd=>?_)
 ·refine ae ?_
  refine ar (Nat×Nat) (fun q=> [(9, .int .i64 ((a + 1 + q.2:Nat):Int)),(8, .int .i64 ((a + 1 + q.1:Nat):Int)),(4, .ptr 2 2 0 0 []),(1, .int .i64 a)]) (fun q=>aR n (P ++ (x :: (B ++ S))) ++ [(2,⟨229,2,false,0,[dL n]⟩)]) 3 (fun q=>q.1≤q.2∧q.2≤B.length∧(∀k y,B[k]? =some y→k < q.1→ee y.1 x.1=true)∧(∀k y,B[k]? =some y→q.2≤k→ee y.1 x.1=false)) (fun q=>q.2 - q.1) (0,B.length) ⟨om,om,fun _ _ _ h=>absurd h (f₄ _),fun k y h1 h2=>by
    have:=(a₁.1 h1).1;omega⟩ (by(try dsimp only);exact vm [(2,_)] [] (h2:=by exact nk)) ?_
  rintro⟨i,j⟩ ⟨h1,h2,h3,h4⟩
  try dsimp only
  dsimp only at h1 h2 h3 h4
  refine ae ?_
  refine ad rfl (fun hd=>?_) (fun hd=>?_)
  ·have hij:i < j:=by have:=ot hd;omega
   obtain⟨c,hc⟩: ∃c,c=(i + j) / 2:=⟨_,rfl⟩
   obtain⟨y,hy⟩:=dN (l:=B) (i:=c) om
   have hx1:(P ++ (x :: (B ++ S)))[a + 1 + c]? =some y:=by
    rw [b₁ om,show a + 1 + c - P.length=c + 1 by omega,d₅,c₂ (a₁.1 hy).1];exact hy
   have hx2:(P ++ (x :: (B ++ S)))[a]? =some x:=yG hP
   have hless:=pH (G:=G) n _ hlen _ _ hx1 hx2
   have k2:=aT.mk (uP (a + 1 + i) (a + 1 + j))
   refine ae ?_
   refine yc (hless) [(0,0),(1,1)] ?_
   refine ae ?_
   refine ad rfl (fun hb=>?_) (fun hb=>?_)
   ·refine ae ?_
    exact⟨(c + 1,j),⟨om,h2,fun k z hz hk=>by
     have h5:=befE_t hb
     have hm:=ht z (mC hz)
     rcases nz hB hz hy om with rfl | h
     ·exact hb
     ·exact(uO hm).2 (dq h h5),h4⟩,by show j - (c + 1) < j - i;omega,(by(try dsimp only);exact vm [(2,_)] [] (h2:=by exact nk))⟩
   ·refine ae ?_
    exact⟨(i,c),⟨om,om,h3,fun k z hz hk=>by
     have h5:=my hb (ht y (mC hy))
     cases hq:ee z.1 x.1 with
     | false=>rfl
     | true=>
      exfalso
      have h6:=befE_t hq
      rcases nz hB hy hz om with rfl | h
      ·exact gK h5 h6
      ·exact gK (dq h5 h) h6⟩,by show c - i < j - i;omega,(by(try dsimp only);exact vm [(2,_)] [] (h2:=by exact nk))⟩
  ·have hij:i=j:=by have:=oF hd;omega
   subst hij
   have hfin:=Jn hB ht hn h3 h4
   rw [← hfin]
   refine ae ?_
   refine ar (Nat) (fun q=> [(11, .int .i64 ((a + q:Nat):Int)),(8, .int .i64 ((a + 1 + i:Nat):Int)),(4, .ptr 2 2 0 0 [])]) (fun q=>aR n (P ++ (B.take q ++ (x :: (B.drop q ++ S)))) ++ [(2,⟨229,2,false,0,[dL n]⟩)]) 3 (fun q=>q≤i) (fun q=>i - q) 0 (b₅ _) (by(try dsimp only);exact vm [(2,_)] [] (h2:=by exact nk)) ?_
   intro q hq
   try dsimp only
   refine ae ?_
   refine ad rfl (fun hd=>?_) (fun hd=>?_)
   ·have hqi:q < i:=by have:=ot hd;omega
    obtain⟨y,hy⟩:=dN (l:=B) (i:=q) om
    obtain⟨hq2,hy2⟩:=a₁.1 hy
    have hsw:CQ (P ++ (B.take q ++ (x :: (B.drop q ++ S)))) (a + q) (a + (q + 1))=P ++ (B.take (q + 1) ++ (x :: (B.drop (q + 1) ++ S))):=by
     have:=mz (X:=P ++ B.take q) (Y:= []) (Z:=B.drop (q + 1) ++ S) (a:=x) (b:=y) (i:=a + q) (j:=a + (q + 1)) (by simp;omega) (by simp;omega)
     rw [b₂ hq2,hy2,a₀ hq2,hy2]
     simpa using this
    have hlen2:(P ++ (B.take q ++ (x :: (B.drop q ++ S)))).length=n:=by simp;omega
    have hswap:=yE (G:=G) n _ hlen2 (a + q) (a + (q + 1)) om om
    rw [hsw] at hswap
    refine ae ?_
    refine dG rfl (fun _ h=>h) rfl (hswap) [(0,0),(1,1)] [] ⟨rfl,trivial,rfl,lm,mm⟩ rfl rfl ?_
    refine ae ?_
    exact⟨q + 1,by show q + 1≤i;omega,by show i - (q + 1) < i - q;omega,(by(try dsimp only);exact vm [(2,_)] [] (h2:=by exact nk))⟩
   ·have hqi:q=i:=by have:=oF hd;omega
    subst hqi
    try dsimp only
    rw [show P ++ ((B.take q ++ x :: B.drop q) ++ S)=P ++ (B.take q ++ (x :: (B.drop q ++ S))) by simp]
    refine ae ?_
    exact en []
 ·exfalso
  have:=oF hd
  omega
theorem NC (n:Nat) (hN:n < 1152921504606846976) (P A S:List TE) (y:TE) (a m:Nat) (hP:P.length=a) (hm:a + A.length=m) (hS:m + 1 + S.length=n) (hA1:A.length≠1) (hA:gk A) (ht: ∀z∈A,z.2 < y.2) (hn:dz A) :
  aH Tryz.prog G 216 [dL n, .int .i64 a, .int .i64 m, .int .i64 ((m + 1:Nat):Int)] (aR n (P ++ (A ++ (y :: S)))) 2 (.tup []) (aR n (P ++ (eu (A ++ [y]) ++ S))) 2:=by
 have hlen:(P ++ (A ++ (y :: S))).length=n:=by simp;omega
 refine bR seat Tryz.func216 177 ?_
 refine ae ?_
 refine ad rfl (fun hd=>?_) (fun hd=>?_)
 ·exfalso
  have:=ot hd
  omega
 refine ae ?_
 refine ad rfl (fun hd=>?_) (fun hd=>?_)
 ·refine ae ?_
  refine ar (Nat×Nat) (fun q=> [(13, .int .i64 ((a + q.2:Nat):Int)),(12, .int .i64 ((a + q.1:Nat):Int)),(4, .ptr 2 2 0 0 []),(2, .int .i64 m)]) (fun q=>aR n (P ++ (A ++ (y :: S))) ++ [(2,⟨229,2,false,0,[dL n]⟩)]) 3 (fun q=>q.1≤q.2∧q.2≤A.length∧(∀k z,A[k]? =some z→k < q.1→ee y.1 z.1=false)∧(∀k z,A[k]? =some z→q.2≤k→ee y.1 z.1=true)) (fun q=>q.2 - q.1) (0,A.length) ⟨om,om,fun _ _ _ h=>absurd h (f₄ _),fun k y h1 h2=>by
    have:=(a₁.1 h1).1;omega⟩ (by(try dsimp only);exact vm [(2,_)] [] (h2:=by exact nk)) ?_
  rintro⟨i,j⟩ ⟨h1,h2,h3,h4⟩
  try dsimp only
  dsimp only at h1 h2 h3 h4
  refine ae ?_
  refine ad rfl (fun hd=>?_) (fun hd=>?_)
  ·have hij:i < j:=by have:=ot hd;omega
   obtain⟨c,hc⟩: ∃c,c=(i + j) / 2:=⟨_,rfl⟩
   obtain⟨z,hz⟩:=dN (l:=A) (i:=c) om
   have hx1:(P ++ (A ++ (y :: S)))[m]? =some y:=by
    rw [← a₅];exact yG (by simp;omega)
   have hx2:(P ++ (A ++ (y :: S)))[a + c]? =some z:=by
    rw [b₁ om,show a + c - P.length=c by omega,c₂ (a₁.1 hz).1];exact hz
   have hless:=pH (G:=G) n _ hlen _ _ hx1 hx2
   have k2:=aT.mk (uP (a + i) (a + j))
   refine ae ?_
   refine yc (hless) [(0,0),(1,1)] ?_
   refine ae ?_
   refine ad rfl (fun hb=>?_) (fun hb=>?_)
   ·have hb:ee y.1 z.1=false:=by simpa using hb
    refine ae ?_
    exact⟨(c + 1,j),⟨om,h2,fun k w hw hk=>by
     have h5:=my hb (ht z (mC hz))
     cases hq:ee y.1 w.1 with
     | false=>rfl
     | true=>
      exfalso
      have h6:=befE_t hq
      rcases nz hA hw hz om with rfl | h
      ·exact gK h5 h6
      ·exact gK (dq h h5) h6,h4⟩,by show j - (c + 1) < j - i;omega,(by(try dsimp only);exact vm [(2,_)] [] (h2:=by exact nk))⟩
   ·have hb:ee y.1 z.1=true:=by simpa using hb
    refine ae ?_
    exact⟨(i,c),⟨om,om,h3,fun k w hw hk=>by
     have h5:=befE_t hb
     have hmm:=ht w (mC hw)
     rcases nz hA hz hw om with rfl | h
     ·exact hb
     ·exact(uO hmm).2 (dq h5 h)⟩,by show c - i < j - i;omega,(by(try dsimp only);exact vm [(2,_)] [] (h2:=by exact nk))⟩
  ·have hij:i=j:=by have:=oF hd;omega
   subst hij
   have hfin:=Gv hA ht hn h3 h4
   rw [← hfin]
   refine ae ?_
   refine ar (Nat) (fun q=> [(15, .int .i64 ((a + q:Nat):Int)),(12, .int .i64 ((a + i:Nat):Int)),(4, .ptr 2 2 0 0 [])]) (fun q=>aR n (P ++ (A.take q ++ (y :: (A.drop q ++ S)))) ++ [(2,⟨229,2,false,0,[dL n]⟩)]) 3 (fun q=>i≤q∧q≤A.length) (fun q=>q) A.length ⟨h2,a₈ _⟩ ?_ ?_
   ·try dsimp only
    rw [b₇,d₃,b₆]
    exact(vm [(2,_)] [] (h2:=by exact nk))
   rintro q ⟨hq,hqA⟩
   try dsimp only
   refine ae ?_
   refine ad rfl (fun hd=>?_) (fun hd=>?_)
   ·have hqi:i < q:=by have:=ot hd;omega
    obtain⟨r,rfl⟩: ∃r,q=r + 1:=⟨q - 1,om⟩
    obtain⟨z,hz⟩:=dN (l:=A) (i:=r) om
    obtain⟨hq2,hy2⟩:=a₁.1 hz
    have hsw:CQ (P ++ (A.take (r + 1) ++ (y :: (A.drop (r + 1) ++ S)))) (a + (r + 1)) (a + r)=P ++ (A.take r ++ (y :: (A.drop r ++ S))):=by
     rw [Bd]
     have:=mz (X:=P ++ A.take r) (Y:= []) (Z:=A.drop (r + 1) ++ S) (a:=z) (b:=y) (i:=a + r) (j:=a + (r + 1)) (by simp;omega) (by simp;omega)
     rw [b₂ hq2,hy2,a₀ hq2,hy2]
     simpa using this
    have hlen2:(P ++ (A.take (r + 1) ++ (y :: (A.drop (r + 1) ++ S)))).length=n:=by simp;omega
    have hswap:=yE (G:=G) n _ hlen2 (a + (r + 1)) (a + r) om om
    rw [hsw] at hswap
    refine ae ?_
    refine dG rfl (fun _ h=>h) rfl (hswap) [(0,0),(1,1)] [] ⟨rfl,trivial,rfl,lm,mm⟩ rfl rfl ?_
    refine ae ?_
    exact⟨r,⟨by show i≤r;omega,by show r≤A.length;omega⟩,by show r < r + 1;omega,(by(try dsimp only);exact vm [(2,_)] [] (h2:=by exact nk))⟩
   ·have hqi:q=i:=by have:=oF hd;omega
    subst hqi
    try dsimp only
    rw [show P ++ ((A.take q ++ y :: A.drop q) ++ S)=P ++ (A.take q ++ (y :: (A.drop q ++ S))) by simp]
    refine ae ?_
    exact en []
 ·exfalso
  have:=oF hd
  omega
end
end Go.Proofs.YthdhlcicpcnbhaaGreatDoor
