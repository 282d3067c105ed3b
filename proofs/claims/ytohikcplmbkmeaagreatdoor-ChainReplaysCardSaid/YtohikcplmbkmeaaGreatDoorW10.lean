/- Parts of a proof. -/
import Derived.Test.YtohikcplmbkmeaaGreatDoorW09
open List renaming length_append → a₀,pairwise_cons → a₁,drop_eq_getElem_cons → a₇,getElem_mem → a₈,length_singleton → a₉,append_assoc → b₁,drop_length → b₄,take_of_length_le → b₇,drop_zero → b₉,find?_cons_of_neg → c₀,mem_cons → c₂,take_succ_eq_append_getElem → c₃,map_append → c₅,nil_append → c₆,mem_of_getElem? → d₁,length_eq_zero_iff → d₅,append_nil → d₆,mem_cons_of_mem → e₁,mem_cons_self → e₄,length_cons → e₇,take_length → e₉,take_zero → f₄
open Nat renaming div_add_mod → a₂,zero_le → a₄,mul_comm → a₅,div_lt_iff_lt_mul → a₆,mul_le_mul_right → b₂,le_refl → b₃,mod_lt → b₆,le_mul_of_pos_left → b₈,mul_assoc → c₁,le_of_eq → c₄,zero_add → c₇,succ_mul → c₈,two_pow_pos → c₉,zero_mul → d₀,one_mul → d₂,lt_trans → d₄,add_mul → d₇,sub_mul → d₈,le_div_iff_mul_le → d₉,mul_le_mul → e₀,lt_or_ge → e₂,lt_of_le_of_lt → e₃,mul_add → e₅,pow_add → e₆,mod_eq_of_lt → e₈,min_eq_left → f₀,not_lt_zero → f₂
open And renaming intro → a₃
open Int renaming natCast_mul → b₀,fdiv_eq_ediv_of_nonneg → d₃,natCast_pow → f₁,natCast_add → f₃
open Prod.mk renaming injEq → b₅
set_option maxRecDepth 20000
set_option maxHeartbeats 16000000
set_option linter.unusedVariables false
set_option linter.unusedSimpArgs false
namespace Go.Proofs.YtohikcplmbkmeaaGreatDoor
open Go.RowKit
section
def xq:List fq→mF→mF
 | [],x=>x
 | f :: r,x=>if f.num=1 then xq r ⟨f.bytes,x.amt⟩ else if f.num=2 then xq r ⟨x.to_,f.val⟩ else xq r x
def ja (b:List UInt8):mF:=xq (aF b).1 ⟨[],0⟩
def gR:List fq→jX→jX
 | [],t=>t
 | f :: r,t=>
  if f.num=1 then gR r ⟨f.bytes,t.seq,t.gas,t.fee,t.memo,t.trs⟩ else
  if f.num=2 then gR r ⟨t.sender,f.val,t.gas,t.fee,t.memo,t.trs⟩ else
  if f.num=3 then gR r ⟨t.sender,t.seq,f.val,t.fee,t.memo,t.trs⟩ else
  if f.num=4 then gR r ⟨t.sender,t.seq,t.gas,f.val,t.memo,t.trs⟩ else
  if f.num=5 then gR r ⟨t.sender,t.seq,t.gas,t.fee,f.bytes,t.trs⟩ else
  if f.num=6 then gR r ⟨t.sender,t.seq,t.gas,t.fee,t.memo,t.trs ++ [ja f.bytes]⟩ else gR r t
theorem Ba: ∀(l:List fq) (x:mF),(ku l x).2=true→xq l x=(ku l x).1
 | [],x,_=>rfl
 | f :: r,x,h=>by
  rw [ku] at h ⊢
  rw [xq]
  split at h
  ·rename_i h1;rw [if_pos h1.1,if_pos h1];exact Ba r _ h
  ·rename_i h1
   split at h
   ·rename_i h2;rw [if_neg om,if_pos h2.1,if_neg h1,if_pos h2];exact Ba r _ h
   ·cases h
theorem Nd {b:List UInt8} (h:(ei b).2=true):ja b=(ei b).1:=by
 unfold ei at h ⊢;unfold ja;have h1:=Ba (aF b).1 ⟨[],0⟩;generalize ku (aF b).1 ⟨[],0⟩=r at *;obtain⟨x,ok⟩:=r;dsimp only at *;rw [Bool.and_eq_true] at h;exact h1 h.1
theorem xr: ∀(l:List fq) (t:jX),(bR l t).2=true→gR l t=(bR l t).1
 | [],t,_=>rfl
 | f :: r,t,h=>by
  rw [bR] at h ⊢
  rw [gR]
  split at h
  ·rename_i h1;rw [if_pos h1.1,if_pos h1];exact xr r _ h
  rename_i n1
  split at h
  ·rename_i h2;rw [if_neg om,if_pos h2.1,if_neg n1,if_pos h2];exact xr r _ h
  rename_i n2
  split at h
  ·rename_i h3;rw [if_neg om,if_neg om,if_pos h3.1,if_neg n1,if_neg n2,if_pos h3];exact xr r _ h
  rename_i n3
  split at h
  ·rename_i h4;rw [if_neg om,if_neg om,if_neg om,if_pos h4.1,if_neg n1,if_neg n2,if_neg n3,if_pos h4];exact xr r _ h
  rename_i n4
  split at h
  ·rename_i h5;rw [if_neg om,if_neg om,if_neg om,if_neg om,if_pos h5.1,if_neg n1,if_neg n2,if_neg n3,if_neg n4,if_pos h5];exact xr r _ h
  rename_i n5
  split at h
  ·rename_i h6
   rw [if_neg om,if_neg om,if_neg om,if_neg om,if_neg om,if_pos h6.1,if_neg n1,if_neg n2,if_neg n3,if_neg n4,if_neg n5,if_pos h6]
   split at h
   ·rename_i h7;rw [if_pos h7,Nd h7];exact xr r _ h
   ·cases h
  ·cases h
theorem DJ (n:Nat) (s s':List UInt8):(bQ n s).length≤(bQ n s').length + 1:=by
 unfold bQ;split <;> split <;> simp
theorem Bb (n v v':Nat):(dz n v).length≤(dz n v').length + 1:=by
 unfold dz;split <;> split <;> simp
theorem eW (t:jX):(jr t).length=(bQ 1 t.sender).length + (dz 2 t.seq).length + (dz 3 t.gas).length + (dz 4 t.fee).length + (bQ 5 t.memo).length + t.trs.length:=by
 unfold jr;simp only [a₀,List.length_map]
theorem kR: ∀(l:List fq) (t:jX),(jr (gR l t)).length≤(jr t).length + l.length
 | [],t=>by rw [gR];simp
 | f :: r,t=>by
  rw [gR,e₇]
  split
  ·have h:=kR r ⟨f.bytes,t.seq,t.gas,t.fee,t.memo,t.trs⟩
   have:=DJ 1 f.bytes t.sender
   rw [eW ⟨f.bytes,t.seq,t.gas,t.fee,t.memo,t.trs⟩] at h;rw [eW t];dsimp only at h;omega
  split
  ·have h:=kR r ⟨t.sender,f.val,t.gas,t.fee,t.memo,t.trs⟩
   have:=Bb 2 f.val t.seq
   rw [eW ⟨t.sender,f.val,t.gas,t.fee,t.memo,t.trs⟩] at h;rw [eW t];dsimp only at h;omega
  split
  ·have h:=kR r ⟨t.sender,t.seq,f.val,t.fee,t.memo,t.trs⟩
   have:=Bb 3 f.val t.gas
   rw [eW ⟨t.sender,t.seq,f.val,t.fee,t.memo,t.trs⟩] at h;rw [eW t];dsimp only at h;omega
  split
  ·have h:=kR r ⟨t.sender,t.seq,t.gas,f.val,t.memo,t.trs⟩
   have:=Bb 4 f.val t.fee
   rw [eW ⟨t.sender,t.seq,t.gas,f.val,t.memo,t.trs⟩] at h;rw [eW t];dsimp only at h;omega
  split
  ·have h:=kR r ⟨t.sender,t.seq,t.gas,t.fee,f.bytes,t.trs⟩
   have:=DJ 5 f.bytes t.memo
   rw [eW ⟨t.sender,t.seq,t.gas,t.fee,f.bytes,t.trs⟩] at h;rw [eW t];dsimp only at h;omega
  split
  ·have h:=kR r ⟨t.sender,t.seq,t.gas,t.fee,t.memo,t.trs ++ [ja f.bytes]⟩
   rw [eW ⟨t.sender,t.seq,t.gas,t.fee,t.memo,t.trs ++ [ja f.bytes]⟩] at h;rw [eW t];dsimp only at h
   rw [a₀,a₉] at h;omega
  ·have h:=kR r t
   omega
theorem Bc: ∀(l:List fq) (x:mF),(∀f∈l,jo f∧f.bytes.length≤5000)→nV x→nV (xq l x)
 | [],x,_,h=>h
 | f :: r,x,hl,h=>by
  have hf:=hl f sm
  have hr: ∀g∈r,jo g∧g.bytes.length≤5000:=fun g hg=>hl g (by simp [hg])
  rw [xq]
  split
  ·exact Bc r _ hr ⟨hf.2,h.2⟩
  split
  ·exact Bc r _ hr ⟨h.1,by have:=hf.1;unfold jo at this;unfold bm;dsimp only;omega⟩
  ·exact Bc r _ hr h
theorem JA {b:List UInt8} (hb:b.length≤5000):nV (ja b):=by
 have h:=fT b;exact Bc _ _ (fun f hf=>⟨(h.1 f hf).1,by have:=(h.1 f hf).2;omega⟩) ⟨sm,by simp [bm]⟩
theorem oz: ∀(l:List fq) (t:jX),(∀f∈l,jo f∧f.bytes.length≤5000)→t.trs.length + l.length≤5000→jz t→jz (gR l t)
 | [],t,_,_,h=>h
 | f :: r,t,hl,hn,h=>by
  have hf:=hl f sm
  have hr: ∀g∈r,jo g∧g.bytes.length≤5000:=fun g hg=>hl g (by simp [hg])
  have hv:bm f.val:=by have:=hf.1;unfold jo at this;unfold bm;omega
  simp only [e₇] at hn
  have hh:=h
  obtain⟨h1,h2,h3,h4,h5,h6,h7⟩:=h
  rw [gR]
  split
  ·exact oz r _ hr dm ⟨hf.2,h2,h3,h4,h5,h6,h7⟩
  split
  ·exact oz r _ hr dm ⟨h1,hv,h3,h4,h5,h6,h7⟩
  split
  ·exact oz r _ hr dm ⟨h1,h2,hv,h4,h5,h6,h7⟩
  split
  ·exact oz r _ hr dm ⟨h1,h2,h3,hv,h5,h6,h7⟩
  split
  ·exact oz r _ hr dm ⟨h1,h2,h3,h4,hf.2,h6,h7⟩
  split
  ·exact oz r _ hr (by dsimp only;rw [a₀,a₉];omega) ⟨h1,h2,h3,h4,h5,by dsimp only;rw [a₀,a₉];omega,fa h7 fun x hx=>by rw [List.mem_singleton.1 hx];exact JA hf.2⟩
  ·exact oz r _ hr om hh
theorem xt {raw:List UInt8} (h:raw.length≤4096):jz (gR (aF raw).1 tx0):=by
 have hf:=fT raw;refine oz _ tx0 (fun f hm=>⟨(hf.1 f hm).1,by have:=(hf.1 f hm).2;omega⟩) ?_ wY
 show 0 + _≤_
 omega
theorem FT {x:mF} (h:nV x):ei (nW x).bytes=(x,true):=by
 have eG:=rH h;unfold ei nW;dsimp only;have hf:aF (aG (bQ 1 x.to_ ++ dz 2 x.amt))=(bQ 1 x.to_ ++ dz 2 x.amt,0,0):=by
  have:=kf (bQ 1 x.to_ ++ dz 2 x.amt) 1024 0 [] (fun f hf=>(eG.1 f hf).1) om;simpa [aF] using this
 rw [hf];have hr:ku (bQ 1 x.to_ ++ dz 2 x.amt) ⟨[],0⟩=(x,true):=by
  obtain⟨to_,amt⟩:=x;unfold bQ dz;dsimp only;by_cases h1:to_= [] <;> by_cases h2:amt=0 <;> simp [h1,h2,ku]
 rw [hr];simp
theorem Nf: ∀(l:List mF) (t:jX),(∀x∈l,nV x)→bR (l.map nW) t=(⟨t.sender,t.seq,t.gas,t.fee,t.memo,t.trs ++ l⟩,true)
 | [],t,_=>by simp [bR]
 | x :: l,t,h=>by
  rw [List.map_cons,bR]
  have h1:=FT (h x sm)
  have n6:(nW x).num=6:=rfl
  have k2:(nW x).kind=2:=rfl
  rw [n6,k2,h1]
  simp only [show ¬ ((6:Nat)=1∧(2:Nat)=2) by omega,show ¬ ((6:Nat)=2∧(2:Nat)=0) by omega,show ¬ ((6:Nat)=3∧(2:Nat)=0) by omega,show ¬ ((6:Nat)=4∧(2:Nat)=0) by omega,show ¬ ((6:Nat)=5∧(2:Nat)=2) by omega,if_false,and_self,if_true]
  refine(Nf l _ fun y hy=>h y (by simp [hy])).trans ?_
  simp
theorem QP {t:jX} (h:jz t):bR (jr t) tx0=(t,true):=by
 obtain⟨sender,seq,gas,fee,memo,trs⟩:=t;obtain⟨h1,h2,h3,h4,h5,h6,h7⟩:=h;dsimp only at h7;unfold jr;dsimp only;have t1: ∀(r:List fq),bR (bQ 1 sender ++ r) ⟨[],0,0,0,[],[]⟩=bR r ⟨sender,0,0,0,[],[]⟩:=fun r=>by
  unfold bQ;by_cases h:sender= [] <;> simp [h,bR]
 have t2: ∀(r:List fq),bR (dz 2 seq ++ r) ⟨sender,0,0,0,[],[]⟩=bR r ⟨sender,seq,0,0,[],[]⟩:=fun r=>by
  unfold dz;by_cases h:seq=0 <;> simp [h,bR]
 have t3: ∀(r:List fq),bR (dz 3 gas ++ r) ⟨sender,seq,0,0,[],[]⟩=bR r ⟨sender,seq,gas,0,[],[]⟩:=fun r=>by
  unfold dz;by_cases h:gas=0 <;> simp [h,bR]
 have t4: ∀(r:List fq),bR (dz 4 fee ++ r) ⟨sender,seq,gas,0,[],[]⟩=bR r ⟨sender,seq,gas,fee,[],[]⟩:=fun r=>by
  unfold dz;by_cases h:fee=0 <;> simp [h,bR]
 have t5: ∀(r:List fq),bR (bQ 5 memo ++ r) ⟨sender,seq,gas,fee,[],[]⟩=bR r ⟨sender,seq,gas,fee,memo,[]⟩:=fun r=>by
  unfold bQ;by_cases h:memo= [] <;> simp [h,bR]
 rw [b₁,b₁,b₁,b₁]
 show bR _ ⟨[],0,0,0,[],[]⟩=_
 rw [t1,t2,t3,t4,t5,Nf trs _ h7];simp
theorem JB (raw:List UInt8):aW raw=if 4096 < raw.length then(tx0,3) else if (aF raw).2.2≠0∨fY (gR (aF raw).1 tx0)≠raw then(tx0,4) else if ef (gR (aF raw).1 tx0)≠0 then(tx0,ef (gR (aF raw).1 tx0)) else(gR (aF raw).1 tx0,0):=by
 unfold aW;by_cases h1:4096 < raw.length
 ·rw [if_pos h1,if_pos h1]
 rw [if_neg h1,if_neg h1];by_cases he:(aF raw).2.2≠0
 ·rw [if_pos (.inl he),if_pos (.inl he)]
 by_cases eG:(bR (aF raw).1 tx0).2=true
 ·rw [xr _ _ eG];by_cases hf:fY (bR (aF raw).1 tx0).1≠raw
  ·rw [if_pos (.inr (.inr hf)),if_pos (.inr hf)]
  ·have n1: ¬ ((aF raw).2.2≠0∨(bR (aF raw).1 tx0).2=false∨fY (bR (aF raw).1 tx0).1≠raw):=fun h=>h.elim he fun h=>h.elim (fun h=>by rw [eG] at h;cases h) hf
   have n2: ¬ ((aF raw).2.2≠0∨fY (bR (aF raw).1 tx0).1≠raw):=fun h=>h.elim he hf
   rw [if_neg n1,if_neg n2]
 ·have H5:(bR (aF raw).1 tx0).2=false:=by simpa using eG
  suffices hx:fY (gR (aF raw).1 tx0)≠raw by rw [if_pos (.inr (.inl H5)),if_pos (.inr hx)]
  intro hf;have eP:=xt (raw:=raw) om;have hlen:=kR (aF raw).1 tx0;have f0i:=(fT raw).2;have h0:(jr tx0).length=0:=rfl;have Bx:=wT eP;have hfm:=kf (jr (gR (aF raw).1 tx0)) 1024 0 [] (fun f hf=>(Bx.1 f hf).1) om;have e:aF raw=(jr (gR (aF raw).1 tx0),0,0):=by
   have h2:aF (fY (gR (aF raw).1 tx0))=(jr (gR (aF raw).1 tx0),0,0):=by simpa [aF,fY] using hfm
   rw [hf] at h2;exact h2
  have e1:(aF raw).1=jr (gR (aF raw).1 tx0):=congrArg Prod.fst e;have e2:=QP eP;rw [← e1] at e2;exact absurd (show(bR (aF raw).1 tx0).2=true by rw [e2]) (by rw [H5];simp)
end
section
section
variable {Pg:Program} {G:GS} {f:FuncId} {args:List MV} {M0 M1:VM} {n0 n1:Nat} {res:MV}
theorem Ng {w:World} {P:cB} {adr xM:gG} {ρ:Nat→Nat} {b:MB} {g:Nat} (h:py w P adr b g) (k: ∀c g,adr c=some g→xM (ρ c)=some g):py w P xM { b with l:=bif b.row then b.l else renVs ρ b.l } g:=by
 have hlen:(bif b.row then b.l else renVs ρ b.l).length=b.l.length:=by
  cases b.row
  ·exact gy _
  ·rfl
 refine⟨?_,h.pe,by simp only [hlen];exact h.le⟩;rcases h.has' with ⟨cur,parts,c1,c2,c3,c4,c5⟩ | ⟨m1,m2,ks,vs,o,m3,m4,m5⟩
 ·refine .inl ⟨cur,parts,c1,by simp only [hlen];exact c2,c3,fun j x p hx hp=>?_,c5⟩;simp only at hx ⊢;cases dP:b.row with
  | true=>rw [dP] at hx c4;exact c4 j x p hx hp
  | false=>
   rw [dP] at hx c4;simp only [cond_false,iN] at hx;cases hj:b.l[j]? with
   | none=>rw [hj] at hx;cases hx
   | some y=>
    rw [hj] at hx;injection hx with hx
    subst hx;exact qP (c4 j y p hj hp) k
 ·exact .inr ⟨m1,m2,ks,vs,o,by simp [m1,m3,renVs,dJ],m4,m5⟩
def DM (a n1:Nat) (c:Nat):Nat:=bif Nat.beq c a then n1 else c
theorem uz (a:Nat) (ha:a < n1) (hn:n0≤n1) (fF:M1.all (fun x=>Nat.blt x.1 n1)=true) (h:aT Pg G f args M0 n0 res M1 n1):aT Pg G f args M0 n0 (dJ (DM a n1) res) (kU (DM a n1) M1) (n1 + 1):=by
 intro w P adr dY h1 h2 h3 h4 h5;refine(h w P adr dY h1 h2 h3 h4 h5).mono ?_;rintro e w' ⟨v,rfl,P',aN,j1,j2,j3,j4,j5,j6,j7,j8⟩;have eS: ∀{c b},VM.get M1 c=some b→c < n1:=fun {c b} hc=>by
  rcases e₂ c n1 with h | h
  ·exact h
  ·rw [s9 fF h] at hc;cases hc
 have hr: ∀c,DM a n1 c=if c=a then n1 else c:=fun c=>by
  unfold DM;by_cases h:c=a
  ·subst h;simp
  ·simp [ir h,h]
 have key: ∀c g,aN c=some g→(fun c=>if c=n1 then aN a else aN c) (DM a n1 c)=some g:=fun c g hc=>by
  dsimp only;rw [hr];by_cases h:c=a
  ·subst h;simp [hc]
  ·rw [if_neg h,if_neg]
   ·exact hc
   ·rintro rfl;rw [j5 c (b₃ _)] at hc;cases hc
 have Gp: ∀c d b b',VM.get M1 c=some b→VM.get M1 d=some b'→DM a n1 c=DM a n1 d→c=d:=fun c d b b' hc hd he=>by
  have:=eS hc;have:=eS hd;rw [hr,hr] at he;split at he <;> split at he <;> omega
 have back: ∀c,c < n1→(fun c=>if c=n1 then aN a else aN c) (DM a n1 c)=aN c:=fun c hc=>by
  dsimp only;rw [hr];by_cases h:c=a
  ·subst h;simp
  ·rw [if_neg h,if_neg om]
 refine⟨v,rfl,P',fun c=>if c=n1 then aN a else aN c,⟨fun c b' hc=>?_,fun c c' b1 b2 g hc uE hg BA=>?_,j1.prot⟩,vS j2 key,⟨j3.prot,j3.cell,fun c g hc=>?_,j3.size⟩,fun c hc=>?_,fun c hc=>?_,fun c g hc=>?_,j7,j8⟩
 ·obtain⟨c0,b0,rfl,pW,rfl⟩:=lp M1 c b' hc Gp;rcases j1.blk c0 b0 pW with q | ⟨g,q1,q2⟩
  ·refine .inl ⟨q.1,?_,(back c0 (eS pW)).trans q.2.2.1,q.2.2.2⟩;simp [q.1,q.2.1]
  ·exact .inr ⟨g,key c0 g q1,Ng q2 key⟩
 ·obtain⟨c0,b0,rfl,pW,rfl⟩:=lp M1 c b1 hc Gp;obtain⟨d0,d1,rfl,hd0,rfl⟩:=lp M1 c' b2 uE Gp;rw [j1.inj c0 d0 b0 d1 g pW hd0 ((back c0 (eS pW)).symm.trans hg) ((back d0 (eS hd0)).symm.trans BA)]
 ·have hk:=j3.num c g hc;have:c≠n1:=by rintro rfl;rw [j5 c (b₃ _)] at hk;cases hk
  simp only [this,if_false];exact hk
 ·have:c≠n1:=om;simp only [this,if_false];exact j4 c hc
 ·have:c≠n1:=om;simp only [this,if_false];exact j5 c om
 ·by_cases h:c=n1
  ·simp only [h,if_true] at hc;exact j6 a g hc
  ·simp only [h,if_false] at hc;exact j6 c g hc
end
end
section
variable {G:GS}
attribute [local irreducible] ak aB aD aJ aQ vC aY aw
def BD (c:Nat) (b:List UInt8):VM:= [(0,⟨250,1,false,0,[.st [.ms c 1 0 b.length]]⟩),(c,⟨5,1,true,0,u8s b⟩)]
abbrev ZP:MV:= .ptr 0 1 0 0 []
theorem Bd (f:fq) (hf:jo f) (hb:f.bytes.length < 400000000) :
  aT Tryz.prog G 152 [.sl 0 [],cj f] [] 0 (.tup [.ms 0 1 0 (aZ f).length, .int .i64 0]) (kg (aZ f)) 1:=by
 have:=nR (G:=G) [] f hf (by simpa using hb)
 simpa [u8s] using this
theorem tN (b s:List UInt8) (n:Nat) (hn:1≤n∧n≤100) (hb:b.length < 400000000) (hs:s.length < 100000000) :
  aT Tryz.prog G 192 [ZP, .int .i64 n, .ifc 9 (.str s)] (BD 1 b) 2 (.tup []) (BD 2 (b ++ aG (bQ n s))) 3:=by
 by_cases h0:s= []
 ·subst h0
  have e:aG (bQ n [])= [] :=rfl
  rw [e,d₆]
  refine uz (n1:=2) 1 (by decide) (by decide) rfl (res:= .tup []) (M1:=BD 1 b) ?_
  unfold BD
  refine dK seat Tryz.func192 61 ?_
  refine aa ?_
  exact en []
 ·have e:aG (bQ n s)=aZ ⟨n,2,0,s⟩:=by unfold bQ;rw [if_neg h0];simp [aG]
  have eG:jo (⟨n,2,0,s⟩:fq):=⟨dm,dm, .inr ⟨rfl,rfl,dm⟩⟩
  have c1:=Bd (G:=G) ⟨n,2,0,s⟩ eG dm
  have jD:=iQ eG
  rw [e]
  unfold kg cj at c1
  dsimp only at c1 jD
  generalize aZ ⟨n,2,0,s⟩=piece at *
  unfold BD
  refine dK seat Tryz.func192 61 ?_
  refine aa ?_
  refine ad rfl ?_ ?_ <;> intro h
  ·exact absurd h (by simp;intro h;exact absurd h h0)
  refine aa ?_
  refine yc (c1) [] ?_
  refine aa ?_
  refine aO rfl rfl (by intro R hR;refine da hR ?_;refine a₃ (c₄ (by simp [u8s])) ?_;refine⟨_,rfl,?_⟩;refine a₃ ⟨(by simp [u8s]),ai (by kernel_rfl) pf⟩ ?_;refine⟨u8s (b ++ piece),sv (by simp [u8s,cutL,b₇]),(b ++ piece).length,sv pf,?_⟩;exact hR) rfl ?_
  refine aa ?_
  exact eb [] [(2,49)] []
theorem si (b:List UInt8) (n v:Nat) (hn:1≤n∧n≤100) (hb:b.length < 400000000) (hv:bm v) :
  aT Tryz.prog G 192 [ZP, .int .i64 n, .ifc 23 (.int .u64 v)] (BD 1 b) 2 (.tup []) (BD 2 (b ++ aG (dz n v))) 3:=by
 by_cases h0:v=0
 ·subst h0
  have e:aG (dz n 0)= [] :=rfl
  rw [e,d₆]
  refine uz (n1:=2) 1 (by decide) (by decide) rfl (res:= .tup []) (M1:=BD 1 b) ?_
  unfold BD
  refine dK seat Tryz.func192 61 ?_
  refine aa ?_
  exact en []
 ·have e:aG (dz n v)=aZ ⟨n,0,v,[]⟩:=by unfold dz;rw [if_neg h0];simp [aG]
  have eG:jo (⟨n,0,v,[]⟩:fq):=⟨dm,dm, .inl ⟨rfl,rfl,hv⟩⟩
  have c1:=Bd (G:=G) ⟨n,0,v,[]⟩ eG (by dsimp only;simp)
  have jD:(aZ ⟨n,0,v,[]⟩).length≤20:=by simpa using iQ eG
  rw [e]
  unfold kg cj at c1
  dsimp only at c1 jD
  generalize aZ ⟨n,0,v,[]⟩=piece at *
  unfold BD
  refine dK seat Tryz.func192 61 ?_
  refine aa ?_
  refine ad rfl ?_ ?_ <;> intro h
  ·exact absurd h (by have:=eq_of_beq h;omega)
  refine aa ?_
  refine yc (c1) [] ?_
  refine aa ?_
  refine aO rfl rfl (by intro R hR;refine da hR ?_;refine a₃ (c₄ (by simp [u8s])) ?_;refine⟨_,rfl,?_⟩;refine a₃ ⟨(by simp [u8s]),ai (by kernel_rfl) pf⟩ ?_;refine⟨u8s (b ++ piece),sv (by simp [u8s,cutL,b₇]),(b ++ piece).length,sv pf,?_⟩;exact hR) rfl ?_
  refine aa ?_
  exact eb [] [(2,50)] []
theorem FU (b x:List UInt8) (n:Nat) (hn:1≤n∧n≤100) (hb:b.length < 400000000) (hs:x.length < 100000000) :
  aT Tryz.prog G 192 [ZP, .int .i64 n, .ifc 41 (.sl x.length (u8s x))] (BD 1 b) 2 (.tup []) (BD 2 (b ++ aZ ⟨n,2,0,x⟩)) 3:=by
 have eG:jo (⟨n,2,0,x⟩:fq):=⟨dm,dm, .inr ⟨rfl,rfl,dm⟩⟩
 have c1:=Bd (G:=G) ⟨n,2,0,x⟩ eG dm
 have jD:=iQ eG
 unfold kg cj at c1
 dsimp only at c1 jD
 generalize aZ ⟨n,2,0,x⟩=piece at *
 unfold BD
 refine dK seat Tryz.func192 61 ?_
 refine aa ?_
 refine yc (c1) [] ?_
 refine aa ?_
 refine aO rfl rfl (by intro R hR;refine da hR ?_;refine a₃ (c₄ (by simp [u8s])) ?_;refine⟨_,rfl,?_⟩;refine a₃ ⟨(by simp [u8s]),ai (by kernel_rfl) pf⟩ ?_;refine⟨u8s (b ++ piece),sv (by simp [u8s,cutL,b₇]),(b ++ piece).length,sv pf,?_⟩;exact hR) rfl ?_
 refine aa ?_
 exact eb [] [(2,46)] []
theorem msgS_app (a b:List fq):aG (a ++ b)=aG a ++ aG b:=by simp [aG]
theorem JC (t:jX) (ht:jz t):aT Tryz.prog G 131 [pR t] [] 0 (.sl (fY t).length (u8s (fY t))) [] 0:=by
 have xN:=tz ht;obtain⟨sender,seq,gas,fee,memo,trs⟩:=t;obtain⟨h1,h2,h3,h4,h5,h6,h7⟩:=ht;dsimp only at h1 h2 h3 h4 h5 h6 h7;generalize hF:fY ⟨sender,seq,gas,fee,memo,trs⟩=F at *;have Zi: ∀k,F=aG (bQ 1 sender) ++ aG (dz 2 seq) ++ aG (dz 3 gas) ++ aG (dz 4 fee) ++ aG (bQ 5 memo) ++ aG ((trs.take k).map nW) ++ aG ((trs.drop k).map nW):=fun k=>by
  rw [← hF];unfold fY jr;have e:aG (trs.map nW)=aG ((trs.take k).map nW) ++ aG ((trs.drop k).map nW):=by rw [← msgS_app,← c₅,List.take_append_drop]
  simp only [msgS_app,e,b₁]
 have Ke:=congrArg List.length (Zi 0);simp only [a₀] at Ke;have c1:=tN (G:=G) [] sender 1 om sm om;rw [c₆] at c1;generalize aG (bQ 1 sender)=p1 at *;have c2:=si (G:=G) p1 2 seq om om h2;have q2:(p1 ++ aG (dz 2 seq)).length=p1.length + (aG (dz 2 seq)).length:=a₀;generalize p1 ++ aG (dz 2 seq)=p2 at *;have c3:=si (G:=G) p2 3 gas om om h3;have q3:(p2 ++ aG (dz 3 gas)).length=p2.length + (aG (dz 3 gas)).length:=a₀;generalize p2 ++ aG (dz 3 gas)=p3 at *;have c4:=si (G:=G) p3 4 fee om om h4;have q4:(p3 ++ aG (dz 4 fee)).length=p3.length + (aG (dz 4 fee)).length:=a₀;generalize p3 ++ aG (dz 4 fee)=p4 at *;have c5:=tN (G:=G) p4 memo 5 om om om;generalize p4 ++ aG (bQ 5 memo)=p5 at *;clear Ke q2 q3 q4 hF;unfold BD at c1 c2 c3 c4 c5;unfold pR;dsimp only;refine dK seat Tryz.func131 49 ?_;refine aa ?_;refine yc (c1) [(0,2)] ?_;refine aa ?_;refine yc (c2) [(0,2),(1,8)] ?_;refine aa ?_;refine yc (c3) [(0,2),(1,14)] ?_;refine aa ?_;refine yc (c4) [(0,2),(1,20)] ?_;refine aa ?_;refine yc (c5) [(0,2),(1,26)] ?_;refine aa ?_;refine av Nat (fun k=> [(30, .int .i64 k),(29, .int .i64 trs.length),(28, .sl trs.length (trs.map mU)),(3, .ptr 0 1 0 0 [])]) (fun k=>BD 1 (p5 ++ aG ((trs.take k).map nW))) 2 (fun k=>k≤trs.length) (fun k=>trs.length - k) 0 (a₄ _) ?_ ?_
 ·rw [show p5 ++ aG ((trs.take 0).map nW)=p5 by simp [aG]];unfold BD;exact(vm [(0,_),(1,_)] [])
 intro k hk;have hFk:=Zi k;have Yw:=congrArg List.length hFk;simp only [a₀] at Yw;try dsimp only
 by_cases aC:k < trs.length
 ·have Kn:p5 ++ aG ((trs.take (k + 1)).map nW)=p5 ++ aG ((trs.take k).map nW) ++ aZ (nW trs[k]):=by
   rw [c₃ aC,c₅,msgS_app,b₁];congr 2;simp [aG]
  have aH:=mH aC;have hx:=h7 _ (a₈ aC);have xJ:=o6 hx;rw [show nW trs[k] =⟨6,2,0,aG (bQ 1 trs[k].to_ ++ dz 2 trs[k].amt)⟩ from rfl] at Kn;have sM:(p5 ++ aG ((trs.take k).map nW)).length < 400000000:=by rw [a₀];omega
  generalize p5 ++ aG ((trs.take k).map nW)=acc at *;generalize hac:p5 ++ aG ((trs.take (k + 1)).map nW)=acc2 at *;generalize trs[k] =x at *;obtain⟨to_,amt⟩:=x;unfold mU at aH;dsimp only at aH Kn hx xJ;have aH:=aj.mk aH;obtain⟨BB,yF⟩:=hx;dsimp only at BB yF;rw [msgS_app] at Kn xJ;have d1:=tN (G:=G) [] to_ 1 om sm om;rw [c₆] at d1;rw [a₀] at xJ;have hiq:(aG (bQ 1 to_) ++ aG (dz 2 amt)).length≤10040:=by rw [a₀];exact xJ
  generalize aG (bQ 1 to_)=i1 at *;have d2:=si (G:=G) i1 2 amt om om yF;generalize i1 ++ aG (dz 2 amt)=i2 at *;have d3:=FU (G:=G) acc i2 6 om sM om;rw [← Kn] at d3;unfold BD at *;refine aa ?_;refine ad rfl ?_ ?_ <;> intro h
  rotate_left
  ·exact absurd (oF h) om
  refine aa ?_;refine yc (d1) [(0,7)] ?_;refine aa ?_;refine yc (d2) [(0,7),(1,13)] ?_;refine aa ?_;refine bF rfl aA rfl (d3) [(0,0),(1,1)] [(19,i2.length)] ⟨rfl,mm,rfl,lm,mm⟩ rfl rfl ?_;refine aa ?_;refine⟨k + 1,om,by show trs.length - (k + 1) < trs.length - k;omega,?_⟩;dsimp only;rw [hac];exact(vm [(0,0),(1,25)] [])
 ·have e:k=trs.length:=om;subst e;rw [b₄,show aG (([] :List mF).map nW)= [] by rfl,d₆] at hFk;rw [← hFk];unfold BD;refine aa ?_;refine ad rfl ?_ ?_ <;> intro h
  ·exact absurd (ot h) om
  refine aa ?_;refine⟨[_],[],[(1,F.length)],rfl,rfl,?_,rfl,⟨?_,trivial⟩,?_⟩
  ·exact⟨by show F.length≤(u8s F).length;simp [u8s],trivial⟩
  ·exact .inr ⟨rfl,rfl,rfl,c₄ (c₇ _),by simp [cutL,u8s,b₇]⟩
  ·exact mm
end
section
attribute [local irreducible] ak aB aD aJ aQ vC aY aw
theorem FV (t:jX) (ht:jz t):aE Tryz.prog GU 132 [pR t] (.int .i64 (ef t)):=by
 obtain⟨sender,seq,gas,fee,memo,trs⟩:=t;obtain⟨h1,h2,h3,h4,h5,h6,h7⟩:=ht;dsimp only at h1 h2 h3 h4 h5 h6 h7;have c1:=va (G:=GU) sender om;have c2:=Qh memo om;generalize hr:ef _=r;unfold ef at hr;unfold pR;dsimp only at hr ⊢;generalize eD sender=b1 at *;generalize ur memo=b2 at *;cases b1 with
 | false=>
  rw [if_pos rfl] at hr;subst hr;refine bA seat Tryz.func132 45 ?_;(iterate 2 ((all_goals(refine aa ?_));(all_goals(first | (refine ah rfl aA rfl (src (c1)) rfl rfl ?_) | ((first | refine ag rfl rfl ?_ rfl ?_ | refine ad rfl ?_ ?_);all_goals(intro h;(try simp only [pl] at h);(try (exfalso;omega)))) | skip))));refine au ?_;rfl
 | true=>
 rw [if_neg sm] at hr;by_cases hg:gas=0
 ·rw [if_pos hg] at hr;subst hr;refine bA seat Tryz.func132 45 ?_;(iterate 3 ((all_goals(refine aa ?_));(all_goals(first | (refine ah rfl aA rfl (src (c1)) rfl rfl ?_) | ((first | refine ag rfl rfl ?_ rfl ?_ | refine ad rfl ?_ ?_);all_goals(intro h;(try simp only [pl] at h);(try (exfalso;omega)))) | skip))));refine au ?_;rfl
 rw [if_neg hg] at hr;cases b2 with
 | false=>
  rw [if_pos rfl] at hr;subst hr;refine bA seat Tryz.func132 45 ?_;(iterate 4 ((all_goals(refine aa ?_));(all_goals(first | (refine ah rfl aA rfl (src (c1)) rfl rfl ?_) | (refine ah rfl aA rfl (src (c2)) rfl rfl ?_) | ((first | refine ag rfl rfl ?_ rfl ?_ | refine ad rfl ?_ ?_);all_goals(intro h;(try simp only [pl] at h);(try (exfalso;omega)))) | skip))));refine au ?_;rfl
 | true=>
 rw [if_neg sm] at hr;by_cases hl:trs.length=0∨16 < trs.length
 ·rw [if_pos hl] at hr;subst hr;refine bA seat Tryz.func132 45 ?_;(iterate 6 ((all_goals(refine aa ?_));(all_goals(first | (refine ah rfl aA rfl (src (c1)) rfl rfl ?_) | (refine ah rfl aA rfl (src (c2)) rfl rfl ?_) | ((first | refine ag rfl rfl ?_ rfl ?_ | refine ad rfl ?_ ?_);all_goals(intro h;(try simp only [pl] at h);(try (exfalso;omega)))) | skip))));all_goals(refine au ?_;rfl)
 rw [if_neg hl] at hr;refine bA seat Tryz.func132 45 ?_;(iterate 6 ((all_goals(refine aa ?_));(all_goals(first | (refine ah rfl aA rfl (src (c1)) rfl rfl ?_) | (refine ah rfl aA rfl (src (c2)) rfl rfl ?_) | ((first | refine ag rfl rfl ?_ rfl ?_ | refine ad rfl ?_ ?_);all_goals(intro h;(try simp only [pl] at h);(try (exfalso;omega)))) | skip))));refine av Nat (fun k=> [(33, .int .i64 k),(32, .int .i64 trs.length),(31, .sl trs.length (trs.map mU))]) (fun _=> []) 0 (fun k=>k≤trs.length∧wV (trs.drop k)=r) (fun k=>trs.length - k) 0 ⟨a₄ _,by rw [b₉];exact hr⟩ (vm [] []) ?_;rintro k ⟨hk,hR⟩;try dsimp only
 refine aa ?_;refine ad rfl ?_ ?_ <;> intro h
 ·have aC:k < trs.length:=by have:=ot h;omega
  have hx:=h7 _ (a₈ aC);have aH:=aj.mk (mH aC);rw [a₇ aC,wV] at hR;generalize trs[k] =x at *;have d1:=va (G:=GU) x.to_ (by have:=hx.1;omega);generalize eD x.to_=b at *;cases b with
  | false=>
   rw [if_pos rfl] at hR;subst hR;(iterate 3 ((all_goals(refine aa ?_));(all_goals(first | (refine ah rfl aA rfl (src (d1)) rfl rfl ?_) | ((first | refine ag rfl rfl ?_ rfl ?_ | refine ad rfl ?_ ?_);all_goals(intro h;(try simp only [pl] at h);(try (exfalso;omega)))) | skip))));refine au ?_;rfl
  | true=>
   rw [if_neg sm] at hR;by_cases hz:x.amt=0
   ·rw [if_pos hz] at hR;subst hR;(iterate 4 ((all_goals(refine aa ?_));(all_goals(first | (refine ah rfl aA rfl (src (d1)) rfl rfl ?_) | ((first | refine ag rfl rfl ?_ rfl ?_ | refine ad rfl ?_ ?_);all_goals(intro h;(try simp only [pl] at h);(try (exfalso;omega)))) | skip))));refine au ?_;rfl
   ·rw [if_neg hz] at hR;(iterate 4 ((all_goals(refine aa ?_));(all_goals(first | (refine ah rfl aA rfl (src (d1)) rfl rfl ?_) | ((first | refine ag rfl rfl ?_ rfl ?_ | refine ad rfl ?_ ?_);all_goals(intro h;(try simp only [pl] at h);(try (exfalso;omega)))) | skip))));exact⟨k + 1,⟨om,hR⟩,by show trs.length - (k + 1) < trs.length - k;omega,(by dsimp only;exact(vm [] []))⟩
 ·have aC:k=trs.length:=by have:=oF h;omega
  subst aC;rw [b₄,wV] at hR;subst hR;refine aa ?_;refine au ?_;rfl
theorem JD (a b:List UInt8):aE Tryz.prog GU 130 [.sl a.length (u8s a), .sl b.length (u8s b)] (.bool (a == b)):=by
 have f1:=aj.mk (gz a);have f2:=aj.mk (gz b);refine bA seat Tryz.func130 10 ?_;refine aa ?_;refine au ?_;rfl
theorem DO (b:List UInt8) (hb:b.length≤5000):aT Tryz.prog GU 191 [.sl b.length (u8s b)] [] 0 (mU (ja b)) [] 0:=by
 have c0:=zh (G:=GU) b om;have Bx:=fT b;generalize hr:ja b=r;unfold ja at hr;generalize aF b=t at *;obtain⟨l,Yv,e⟩:=t;dsimp only at hr Bx c0;unfold mU;refine dK seat Tryz.func191 36 ?_;refine aa ?_;refine jn (c0) ?_;refine av (Nat×mF) (fun x=> [(17, .int .i64 x.1),(16, .int .i64 l.length),(15, .sl l.length (l.map cj)),(3, .ptr 1 2 0 0 []),(2, .ptr 0 2 0 0 [])]) (fun x=> [(0,⟨95,2,false,0,[.st [.str [], .int .u64 0]]⟩),(1,⟨95,2,false,0,[.st [.str x.2.to_, .int .u64 x.2.amt]]⟩)]) 2 (fun x=>x.1≤l.length∧xq (l.drop x.1) x.2=r) (fun x=>l.length - x.1) (0,⟨[],0⟩) ⟨a₄ _,by dsimp only;rw [b₉];exact hr⟩ (by dsimp only;exact(vm [(0,_),(1,_)] [])) ?_;rintro⟨k,x⟩ ⟨hk,hR⟩;obtain⟨to_,amt⟩:=x;try dsimp only
 dsimp only at hk hR;refine aa ?_;refine ad rfl ?_ ?_ <;> intro h
 ·have aC:k < l.length:=by have:=ot h;omega
  have aH:=oW aC;rw [a₇ aC] at hR;generalize l[k] =f at *;obtain⟨num,kind,val,bytes⟩:=f;replace aH:bI (l.map cj) l.length (k:Int)=some (.st [.int .i64 num, .int .i64 kind, .int .u64 val, .sl bytes.length (u8s bytes)]):=aH;have aH:=aj.mk aH;have RP:=aj.mk (gz bytes);rw [xq] at hR;dsimp only at hR;by_cases g1:num=1
  ·rw [if_pos g1] at hR;subst g1;(iterate 6 ((all_goals(refine aa ?_));(all_goals(first | ((first | refine ag rfl rfl ?_ rfl ?_ | refine ad rfl ?_ ?_);all_goals(intro h;(try simp only [pl] at h);(try (exfalso;omega)))) | skip))));exact⟨(k + 1,⟨bytes,amt⟩),⟨dm,hR⟩,by show l.length - (k + 1) < l.length - k;omega,(by dsimp only;exact(vm [(0,_),(1,_)] []))⟩
  rw [if_neg g1] at hR;by_cases g2:num=2
  ·rw [if_pos g2] at hR;subst g2;(iterate 6 ((all_goals(refine aa ?_));(all_goals(first | ((first | refine ag rfl rfl ?_ rfl ?_ | refine ad rfl ?_ ?_);all_goals(intro h;(try simp only [pl] at h);(try (exfalso;omega)))) | skip))));exact⟨(k + 1,⟨to_,val⟩),⟨dm,hR⟩,by show l.length - (k + 1) < l.length - k;omega,(by dsimp only;exact(vm [(0,_),(1,_)] []))⟩
  ·rw [if_neg g2] at hR;(iterate 6 ((all_goals(refine aa ?_));(all_goals(first | ((first | refine ag rfl rfl ?_ rfl ?_ | refine ad rfl ?_ ?_);all_goals(intro h;(try simp only [pl] at h);(try (exfalso;omega)))) | skip))));exact⟨(k + 1,⟨to_,amt⟩),⟨dm,hR⟩,by show l.length - (k + 1) < l.length - k;omega,(by dsimp only;exact(vm [(0,_),(1,_)] []))⟩
 ·have aC:k=l.length:=by have:=oF h;omega
  subst aC;rw [b₄,xq] at hR;subst hR;refine aa ?_;refine au ?_;refine⟨[_],[],[],rfl,rfl,trivial,rfl,⟨?_,trivial⟩,?_⟩
  ·exact .inl ⟨rfl,rfl⟩
  ·exact mm
theorem QR (l:List fq) (hl: ∀f∈l,jo f∧f.bytes.length≤5000) (hn:l.length≤1024):aT Tryz.prog GU 129 [.sl l.length (l.map cj)] [] 0 (pR (gR l tx0)) [] 0:=by
 generalize hr:gR l tx0=R;refine dK seat Tryz.func129 53 ?_;refine aa ?_;refine av (Nat×jX) (fun x=> [(8, .int .i64 x.1),(7, .int .i64 l.length),(6, .sl l.length (l.map cj)),(3, .ptr 1 6 0 0 []),(2, .ptr 0 6 0 0 [])]) (fun x=> [(0,⟨98,6,false,0,[.st [.str [], .int .u64 0, .int .u64 0, .int .u64 0, .str [], .nils]]⟩),(1,⟨98,6,false,0,[.st [.str x.2.sender, .int .u64 x.2.seq, .int .u64 x.2.gas, .int .u64 x.2.fee, .str x.2.memo, .ms 2 2 0 x.2.trs.length]]⟩),(2,⟨95,2,true,0,x.2.trs.map mU⟩)]) 3 (fun x=>x.1≤l.length∧x.2.trs.length≤x.1∧gR (l.drop x.1) x.2=R) (fun x=>l.length - x.1) (0,tx0) ⟨a₄ _,a₄ _,by dsimp only;rw [b₉];exact hr⟩ (by dsimp only;exact(vm [(0,_),(1,_)] [])) ?_;rintro⟨k,t⟩ ⟨hk,ht,hR⟩;obtain⟨sender,seq,gas,fee,memo,trs⟩:=t;try dsimp only
 dsimp only at hk ht hR;refine aa ?_;refine ad rfl ?_ ?_ <;> intro h
 ·have aC:k < l.length:=by have:=ot h;omega
  have eG:=hl _ (a₈ aC);have aH:=oW aC;rw [a₇ aC] at hR;generalize l[k] =f at *;obtain⟨num,kind,val,bytes⟩:=f;replace aH:bI (l.map cj) l.length (k:Int)=some (.st [.int .i64 num, .int .i64 kind, .int .u64 val, .sl bytes.length (u8s bytes)]):=aH;have aH:=aj.mk aH;have RP:=aj.mk (gz bytes);rw [gR] at hR;dsimp only at hR eG;by_cases g1:num=1
  ·rw [if_pos g1] at hR;subst g1;(iterate 4 ((all_goals(refine aa ?_));(all_goals(first | ((first | refine ag rfl rfl ?_ rfl ?_ | refine ad rfl ?_ ?_);all_goals(intro h;(try simp only [pl] at h);(try (exfalso;omega)))) | skip))));exact⟨(k + 1,⟨bytes,seq,gas,fee,memo,trs⟩),⟨dm,dm,hR⟩,by show l.length - (k + 1) < l.length - k;omega,(by dsimp only;exact(vm [(0,_),(1,_),(2,_)] []))⟩
  rw [if_neg g1] at hR;by_cases g2:num=2
  ·rw [if_pos g2] at hR;subst g2;(iterate 6 ((all_goals(refine aa ?_));(all_goals(first | ((first | refine ag rfl rfl ?_ rfl ?_ | refine ad rfl ?_ ?_);all_goals(intro h;(try simp only [pl] at h);(try (exfalso;omega)))) | skip))));exact⟨(k + 1,⟨sender,val,gas,fee,memo,trs⟩),⟨dm,dm,hR⟩,by show l.length - (k + 1) < l.length - k;omega,(by dsimp only;exact(vm [(0,_),(1,_),(2,_)] []))⟩
  rw [if_neg g2] at hR;by_cases g3:num=3
  ·rw [if_pos g3] at hR;subst g3;(iterate 8 ((all_goals(refine aa ?_));(all_goals(first | ((first | refine ag rfl rfl ?_ rfl ?_ | refine ad rfl ?_ ?_);all_goals(intro h;(try simp only [pl] at h);(try (exfalso;omega)))) | skip))));exact⟨(k + 1,⟨sender,seq,val,fee,memo,trs⟩),⟨dm,dm,hR⟩,by show l.length - (k + 1) < l.length - k;omega,(by dsimp only;exact(vm [(0,_),(1,_),(2,_)] []))⟩
  rw [if_neg g3] at hR;by_cases g4:num=4
  ·rw [if_pos g4] at hR;subst g4;(iterate 10 ((all_goals(refine aa ?_));(all_goals(first | ((first | refine ag rfl rfl ?_ rfl ?_ | refine ad rfl ?_ ?_);all_goals(intro h;(try simp only [pl] at h);(try (exfalso;omega)))) | skip))));exact⟨(k + 1,⟨sender,seq,gas,val,memo,trs⟩),⟨dm,dm,hR⟩,by show l.length - (k + 1) < l.length - k;omega,(by dsimp only;exact(vm [(0,_),(1,_),(2,_)] []))⟩
  rw [if_neg g4] at hR;by_cases g5:num=5
  ·rw [if_pos g5] at hR;subst g5;(iterate 12 ((all_goals(refine aa ?_));(all_goals(first | ((first | refine ag rfl rfl ?_ rfl ?_ | refine ad rfl ?_ ?_);all_goals(intro h;(try simp only [pl] at h);(try (exfalso;omega)))) | skip))));exact⟨(k + 1,⟨sender,seq,gas,fee,bytes,trs⟩),⟨dm,dm,hR⟩,by show l.length - (k + 1) < l.length - k;omega,(by dsimp only;exact(vm [(0,_),(1,_),(2,_)] []))⟩
  rw [if_neg g5] at hR;by_cases g6:num=6
  ·rw [if_pos g6] at hR;subst g6;have c1:=DO bytes eG.2;generalize ja bytes=x at *;(iterate 13 ((all_goals(refine aa ?_));(all_goals(first | ((first | refine ag rfl rfl ?_ rfl ?_ | refine ad rfl ?_ ?_);all_goals(intro h;(try simp only [pl] at h);(try (exfalso;omega)))) | skip))));refine al [ae 0,ae 1,ae 2,ae 3,dF 4,ae 5,ae 6,ae 7,ae 8] ?_;refine aa ?_;refine tq (c1) ?_;refine bj rfl (by intro R hR;refine da hR ?_;(refine a₃ (b₃ _) ?_;refine⟨_,rfl,?_⟩;refine a₃ ⟨sm,ai (by kernel_rfl) pf⟩ ?_;refine⟨(trs ++ [x]).map mU,sv (by simp;rfl),trs.length + 1,sv pf,?_⟩);exact hR) rfl ?_;refine aa ?_;exact⟨(k + 1,⟨sender,seq,gas,fee,memo,trs ++ [x]⟩),⟨dm,by dsimp only;rw [a₀,a₉];omega,hR⟩,by show l.length - (k + 1) < l.length - k;omega,(by dsimp only;rw [a₀,a₉];exact(vm [(0,_),(1,_),(2,_)] []))⟩
  ·rw [if_neg g6] at hR;(iterate 14 ((all_goals(refine aa ?_));(all_goals(first | ((first | refine ag rfl rfl ?_ rfl ?_ | refine ad rfl ?_ ?_);all_goals(intro h;(try simp only [pl] at h);(try (exfalso;omega)))) | skip))));exact⟨(k + 1,⟨sender,seq,gas,fee,memo,trs⟩),⟨dm,dm,hR⟩,by show l.length - (k + 1) < l.length - k;omega,(by dsimp only;exact(vm [(0,_),(1,_),(2,_)] []))⟩
 ·have aC:k=l.length:=by have:=oF h;omega
  subst aC;rw [b₄,gR] at hR;subst hR;refine aa ?_;refine au ?_;refine⟨[_],[],[(2,trs.length)],rfl,rfl,?_,rfl,⟨?_,trivial⟩,?_⟩
  ·exact⟨(show trs.length≤(trs.map mU).length by simp),trivial⟩
  ·exact .inr ⟨_,rfl,lm⟩
  ·exact mm
theorem JE (raw:List UInt8) (qu:raw.length≤140737488355328):aT Tryz.prog GU 86 [.sl raw.length (u8s raw)] [] 0 (.tup [pR (aW raw).1, .int .i64 (aW raw).2]) [] 0:=by
 generalize hr:aW raw=r;obtain⟨R,code⟩:=r;dsimp only;rw [JB] at hr;by_cases h1:4096 < raw.length
 ·rw [if_pos h1] at hr;simp only [b₅] at hr;obtain⟨rfl,rfl⟩:=hr;refine dK seat Tryz.func86 38 ?_;refine aa ?_;(iterate 4 ((all_goals(refine aa ?_));(all_goals(first | ((first | refine ag rfl rfl ?_ rfl ?_ | refine ad rfl ?_ ?_);all_goals(intro h;(try simp only [pl] at h);(try (exfalso;omega)))) | skip))));all_goals(refine au ?_;exact en [_,_])
 rw [if_neg h1] at hr;have c1:=zh (G:=GU) raw om;have hf:=fT raw;have c2:=QR (aF raw).1 (fun f hm=>⟨(hf.1 f hm).1,by have:=(hf.1 f hm).2;omega⟩) hf.2;have eP:=xt (raw:=raw) om;have c3:=JC (G:=GU) _ eP;have c4:=JD (fY (gR (aF raw).1 tx0)) raw;have c5:=FV _ eP;clear hf eP;generalize aF raw=F at *;obtain⟨l,at_,e⟩:=F;dsimp only at c1 c2 c3 c4 c5 hr;generalize gR l tx0=t at *;generalize fY t=fs at *;generalize ef t=vt at *;have hb:(fs == raw)=true↔fs=raw:=sm;generalize (fs == raw)=b at *;by_cases he:e=0
 ·subst he;cases b with
  | false=>
   have gf:fs≠raw:=fun e=>by have:=hb.2 e;simp at this
   rw [if_pos (by simp [gf])] at hr;simp only [b₅] at hr;obtain⟨rfl,rfl⟩:=hr;refine dK seat Tryz.func86 38 ?_;refine aa ?_;(iterate 12 ((all_goals(refine aa ?_));(all_goals(first | (refine ah rfl aA rfl (c1) rfl rfl ?_) | (refine ah rfl aA rfl (c2) rfl rfl ?_) | (refine ah rfl aA rfl (c3) rfl rfl ?_) | (refine ah rfl aA rfl (src (c4)) rfl rfl ?_) | (refine ah rfl aA rfl (src (c5)) rfl rfl ?_) | ((first | refine ag rfl rfl ?_ rfl ?_ | refine ad rfl ?_ ?_);all_goals(intro h;(try simp only [pl] at h);(try (exfalso;omega)))) | skip))));all_goals(refine au ?_;exact en [_,_])
  | true=>
   have heq:fs=raw:=hb.1 rfl;rw [if_neg (by simp [heq])] at hr;by_cases hv:vt=0
   ·subst hv;rw [if_neg sm] at hr;simp only [b₅] at hr;obtain⟨rfl,rfl⟩:=hr;refine dK seat Tryz.func86 38 ?_;refine aa ?_;(iterate 12 ((all_goals(refine aa ?_));(all_goals(first | (refine ah rfl aA rfl (c1) rfl rfl ?_) | (refine ah rfl aA rfl (c2) rfl rfl ?_) | (refine ah rfl aA rfl (c3) rfl rfl ?_) | (refine ah rfl aA rfl (src (c4)) rfl rfl ?_) | (refine ah rfl aA rfl (src (c5)) rfl rfl ?_) | ((first | refine ag rfl rfl ?_ rfl ?_ | refine ad rfl ?_ ?_);all_goals(intro h;(try simp only [pl] at h);(try (exfalso;omega)))) | skip))));all_goals(refine au ?_;exact en [_,_])
   ·rw [if_pos hv] at hr;simp only [b₅] at hr;obtain⟨rfl,rfl⟩:=hr;refine dK seat Tryz.func86 38 ?_;refine aa ?_;(iterate 12 ((all_goals(refine aa ?_));(all_goals(first | (refine ah rfl aA rfl (c1) rfl rfl ?_) | (refine ah rfl aA rfl (c2) rfl rfl ?_) | (refine ah rfl aA rfl (c3) rfl rfl ?_) | (refine ah rfl aA rfl (src (c4)) rfl rfl ?_) | (refine ah rfl aA rfl (src (c5)) rfl rfl ?_) | ((first | refine ag rfl rfl ?_ rfl ?_ | refine ad rfl ?_ ?_);all_goals(intro h;(try simp only [pl] at h);(try (exfalso;omega)))) | skip))));all_goals(refine au ?_;exact en [_,_])
 ·rw [if_pos (.inl he)] at hr;simp only [b₅] at hr;obtain⟨rfl,rfl⟩:=hr;refine dK seat Tryz.func86 38 ?_;refine aa ?_;(iterate 12 ((all_goals(refine aa ?_));(all_goals(first | (refine ah rfl aA rfl (c1) rfl rfl ?_) | (refine ah rfl aA rfl (c2) rfl rfl ?_) | (refine ah rfl aA rfl (c3) rfl rfl ?_) | (refine ah rfl aA rfl (src (c4)) rfl rfl ?_) | (refine ah rfl aA rfl (src (c5)) rfl rfl ?_) | ((first | refine ag rfl rfl ?_ rfl ?_ | refine ad rfl ?_ ?_);all_goals(intro h;(try simp only [pl] at h);(try (exfalso;omega)))) | skip))));all_goals(refine au ?_;exact en [_,_])
end
section
def Su (y1 y0 u1:Nat):Nat→Nat→Nat→Nat
 | 0,q,_=>q
 | f + 1,q,r=>if 4294967296≤q∨4294967296 * r + u1 < q * y0 then(if 4294967296≤r + y1 then q - 1 else Su y1 y0 u1 f (q - 1) (r + y1)) else q
theorem HJ {y1 y0 u1 u:Nat} (h1:y1 < 4294967296) (h0:y0 < 4294967296) (hu:u < y1 * 4294967296 + y0) (Xv:u1 < 4294967296): ∀(f q r:Nat),q * y1 + r=u→r < 4294967296→(u * 4294967296 + u1) / (y1 * 4294967296 + y0)≤q→4294967296≤r + f * y1→Su y1 y0 u1 f q r=(u * 4294967296 + u1) / (y1 * 4294967296 + y0)
 | 0,q,r,_,hr,_,hf=>by omega
 | f + 1,q,r,he,hr,hq,hf=>by
  have hy:0 < y1 * 4294967296 + y0:=om
  have ex:q * (y1 * 4294967296 + y0)=q * y1 * 4294967296 + q * y0:=by rw [e₅,c₁]
  unfold Su
  by_cases hc:4294967296≤q∨4294967296 * r + u1 < q * y0
  ·rw [if_pos hc]
   have eS:(u * 4294967296 + u1) / (y1 * 4294967296 + y0) < q:=by
    rw [a₆ hy]
    rcases hc with hc | hc
    ·have:=b₂ (y1 * 4294967296 + y0) hc
     omega
    ·rw [ex]
     generalize q * y1=A at *
     generalize q * y0=C at *
     omega
   have S3:1≤q:=e₃ (a₄ _) eS
   have e1:(q - 1) * y1 + (r + y1)=u:=by
    have:(q - 1) * y1 + y1=q * y1:=by rw [← c₈];congr 1;omega
    omega
   by_cases hb:4294967296≤r + y1
   ·rw [if_pos hb]
    have hle:q - 1≤(u * 4294967296 + u1) / (y1 * 4294967296 + y0):=by
     rw [d₉ hy]
     have XT:q - 1 < 4294967296:=by
      rcases e₂ (q - 1) 4294967296 with h | h
      ·exact h
      ·have:=b₂ y1 h
       omega
     have h3:(q - 1) * y0≤4294967295 * 4294967295:=e₀ om om
     have ey:(q - 1) * (y1 * 4294967296 + y0)=(q - 1) * y1 * 4294967296 + (q - 1) * y0:=by rw [e₅,c₁]
     rw [ey]
     generalize (q - 1) * y1=A at *
     generalize (q - 1) * y0=C at *
     omega
    omega
   ·rw [if_neg hb]
    refine HJ h1 h0 hu Xv f (q - 1) (r + y1) e1 om om ?_
    rw [c₈] at hf
    omega
  ·rw [if_neg hc]
   have hle:q≤(u * 4294967296 + u1) / (y1 * 4294967296 + y0):=by
    rw [d₉ hy,ex]
    have H9:q * y0≤4294967296 * r + u1:=by
     rcases e₂ (4294967296 * r + u1) (q * y0) with h | h
     ·exact absurd (.inr h) hc
     ·exact h
    generalize q * y1=A at *
    generalize q * y0=C at *
    omega
   omega
theorem Nh {y1 y0 u1 u:Nat} (h1:y1 < 4294967296) (h2:2147483648≤y1) (h0:y0 < 4294967296) (hu:u < y1 * 4294967296 + y0) (Xv:u1 < 4294967296):Su y1 y0 u1 2 (u / y1) (u % y1)=(u * 4294967296 + u1) / (y1 * 4294967296 + y0):=by
 have hy:0 < y1 * 4294967296 + y0:=om;refine HJ h1 h0 hu Xv 2 _ _ (by rw [a₅];exact a₂ u y1) (d₄ (b₆ _ om) h1) ?_ om
 -- the guess is never too small
 have hm:=a₂ u y1;have eS:=b₆ u (show 0 < y1 by omega);have:(u * 4294967296 + u1) / (y1 * 4294967296 + y0) < u / y1 + 1:=by
  rw [a₆ hy];have e:(u / y1 + 1) * (y1 * 4294967296 + y0)=(y1 * (u / y1) + y1) * 4294967296 + (u / y1 + 1) * y0:=by
   rw [e₅,← c₁,d₇ (u / y1) 1 y1,d₂,a₅ (u / y1) y1]
  rw [e];generalize y1 * (u / y1)=A at *;generalize (u / y1 + 1) * y0=C at *;omega
 omega
theorem Ni (b y u u1 u0:Nat):u * (b * b) + (u1 * b + u0)=(u * b + u1) % y * b + u0 + y * ((u * b + u1) / y * b):=by
 have h:=a₂ (u * b + u1) y;have e1:u * (b * b) + (u1 * b + u0)=(u * b + u1) * b + u0:=by rw [d₇,← c₁,Nat.add_assoc]
 have e2:(y * ((u * b + u1) / y) + (u * b + u1) % y) * b=y * ((u * b + u1) / y * b) + (u * b + u1) % y * b:=by rw [d₇,c₁]
 rw [h] at e2;rw [e1,e2];omega
theorem QS (b y u u1 u0:Nat) (hy:0 < y):(u * b + u1) / y * b + ((u * b + u1) % y * b + u0) / y=(u * (b * b) + (u1 * b + u0)) / y:=by
 rw [Ni b y u u1 u0,Nat.add_mul_div_left _ _ hy,Nat.add_comm]
theorem DP (b y u u1 u0:Nat):((u * b + u1) % y * b + u0) % y=(u * (b * b) + (u1 * b + u0)) % y:=by
 rw [Ni b y u u1 u0,Nat.add_mul_mod_self_left]
theorem JF (n y s:Nat):n * 2 ^ s / (y * 2 ^ s)=n / y:=Nat.mul_div_mul_right n y (c₉ s)
theorem JG (n y s:Nat):n * 2 ^ s % (y * 2 ^ s) / 2 ^ s=n % y:=by
 rw [Nat.mul_mod_mul_right,Nat.mul_div_cancel _ (c₉ s)]
end
section
variable {G:GS}
attribute [local irreducible] ak aB aD aJ aQ vC aY aw
theorem QT (a b:Nat):Th Tryz.prog G 240 [.int .u64 a, .int .u64 b, .int .u64 0] [] 0 (.tup [.int .u64 ((a + b) % 18446744073709551616:Nat), .int .u64 ((a + b) / 18446744073709551616:Nat)]) [] 0:=by
 intro w P adr dY hg hI hn hL dj;cases dj with | cons a1 dj=>cases dj with | cons a2 dj=>cases dj with | cons a3 dj=>
 cases dj;have e1:=a1.int_;have e2:=a2.int_;have e3:=a3.int_;subst e1 e2 e3;have hf:(callFunc 240 #[.int .u64 a, .int .u64 b, .int .u64 0]).run Tryz.prog w=_:=
  run_callFunc_extern Tryz.func240 (by kernel_rfl) (by kernel_rfl) (by kernel_rfl) (e:=add64Entry) (by kernel_rfl) _ w
 refine⟨.tuple #[.int .u64 ((a + b) % 18446744073709551616:Nat), .int .u64 ((a + b) / 18446744073709551616:Nat)],w,hf.trans ?_,_,rfl,P,adr,hI, .tup [.int .u64 ((a + b) % 18446744073709551616:Nat), .int .u64 ((a + b) / 18446744073709551616:Nat)] rfl (fun j m u hj hu=>?_),bJ.refl _ _ _,fun _ _=>rfl,hn,fun c g hc=> .inr ⟨c,hc⟩,fun b o ho=> .inl ho,db.refl _ _⟩
 ·have h:=run_add64 (P:=Tryz.prog) (a:Int) (b:Int) 0 om om om om w;rw [h];have e1:((a:Int) + b + 0) % 18446744073709551616=((a + b) % 18446744073709551616:Nat):=om;have e2:((a:Int) + b + 0) / 18446744073709551616=((a + b) / 18446744073709551616:Nat):=om;rw [e1,e2];rfl
 ·match j with
  | 0=>simp at hj hu;subst hj;subst hu;exact⟨_, .int,rfl⟩
  | 1=>simp at hj hu;subst hj;subst hu;exact⟨_, .int,rfl⟩
  | j + 2=>simp at hj
theorem Nj (n:Nat) (ok:Bool):aE Tryz.prog G 241 [.int .u64 n, .bool ok] (.tup [.int .u64 (if ok then n else 0:Nat), .bool ok]):=by
 cases ok
 ·refine bA seat Tryz.func241 9 ?_;refine aa ?_;(iterate 4 ((all_goals(refine aa ?_));(all_goals(first | ((first | refine ag rfl rfl ?_ rfl ?_ | refine ad rfl ?_ ?_);all_goals(intro h;(try simp only [pl] at h);(try (exfalso;omega)))) | skip))));all_goals(refine au ?_)
  all_goals rfl
 ·refine bA seat Tryz.func241 9 ?_;refine aa ?_;(iterate 4 ((all_goals(refine aa ?_));(all_goals(first | ((first | refine ag rfl rfl ?_ rfl ?_ | refine ad rfl ?_ ?_);all_goals(intro h;(try simp only [pl] at h);(try (exfalso;omega)))) | skip))));all_goals(refine au ?_)
  all_goals rfl
theorem Ua (a b:Nat) (ha:bm a) (hb:bm b):aE Tryz.prog G 179 [.int .u64 a, .int .u64 b] (.tup [.int .u64 (jA a b).1, .bool (jA a b).2]):=by
 unfold bm at ha hb;have c0:=QT (G:=G) a b;have c1:=Nj (G:=G) ((a + b) % 18446744073709551616) (((a + b) / 18446744073709551616:Nat) == (0:Int));have sI:(.tup [.int .u64 (if (((a + b) / 18446744073709551616:Nat) == (0:Int)) then(a + b) % 18446744073709551616 else 0:Nat), .bool (((a + b) / 18446744073709551616:Nat) == (0:Int))] :MV)= .tup [.int .u64 (jA a b).1, .bool (jA a b).2] :=by
  unfold jA;by_cases h:a + b < 18446744073709551616
  ·have e1:(a + b) / 18446744073709551616=0:=om;have e2:(a + b) % 18446744073709551616=a + b:=om;simp [h,e1,e2]
  ·have e1:(((a + b) / 18446744073709551616:Nat) == (0:Int))=false:=by rw [beq_eq_false_iff_ne];omega
   rw [e1];simp [h]
 rw [sI] at c1;generalize jA a b=p at *;obtain⟨v,ok⟩:=p;refine bA seat Tryz.func179 20 ?_;refine aa ?_;refine Lk rfl aA rfl (c0) [] [] ⟨rfl,trivial,rfl,lm,mm⟩ rfl rfl ?_;refine aa ?_;refine dZ (c1) ?_;refine au ?_;rfl
theorem HK (a b:Nat) (ha:bm a) (hb:bm b):aE Tryz.prog G 198 [.int .u64 a, .int .u64 b] (.tup [.int .u64 (a * b / 18446744073709551616:Nat), .int .u64 (a * b % 18446744073709551616:Nat)]):=by
 obtain⟨w,p,q,r,hw,hp,hq,hr,bw,bp,bq,br,Kg,H6⟩:=FA a b ha hb;unfold bm at ha hb;have mk: ∀x y z:Nat,x * y=z→z < 18446744065119617026→IntKind.u64.wrap ((x:Int) * (y:Int))=(z:Int):=fun x y z h hz=>by
  rw [← b₀,h];exact bS _ om om
 have m1:=aX.mk (mk _ _ _ hw bw);have m2:=aX.mk (mk _ _ _ hp bp);have m3:=aX.mk (mk _ _ _ hq bq);have m4:=aX.mk (mk _ _ _ hr br);have m5:=aX.mk (show IntKind.u64.wrap ((a:Int) * (b:Int))=((a * b % 18446744073709551616:Nat):Int) by rw [wu64,← b₀];omega);have s1:=aX.mk (iR a);have s2:=aX.mk (iR b);have s3:=aX.mk (iR p);have l1:=aX.mk (i6 (m:=a) ha);have l2:=aX.mk (i6 (m:=b) hb);clear hw hp hq hr mk;generalize a * b=n at *;subst Kg;have a1:=aX.mk (show IntKind.u64.wrap ((q:Int) + ((p / 4294967296:Nat):Int))=((q + p / 4294967296:Nat):Int) from bS _ om om);have l3:=aX.mk (i6 (m:=q + p / 4294967296) om);have s4:=aX.mk (iR (q + p / 4294967296));have a2:=aX.mk (show IntKind.u64.wrap ((((q + p / 4294967296) % 4294967296:Nat):Int) + (r:Int))=(((q + p / 4294967296) % 4294967296 + r:Nat):Int) from bS _ om om);have s5:=aX.mk (iR ((q + p / 4294967296) % 4294967296 + r));have a3:=aX.mk (show IntKind.u64.wrap ((w:Int) + (((q + p / 4294967296) / 4294967296:Nat):Int))=((w + (q + p / 4294967296) / 4294967296:Nat):Int) from bS _ om om);have a4:=aX.mk (show IntKind.u64.wrap (((w + (q + p / 4294967296) / 4294967296:Nat):Int) + ((((q + p / 4294967296) % 4294967296 + r) / 4294967296:Nat):Int))=((w + (q + p / 4294967296) / 4294967296 + ((q + p / 4294967296) % 4294967296 + r) / 4294967296:Nat):Int) from bS _ om om);refine bA seat Tryz.func198 51 ?_;refine aa ?_;refine au ?_;refine congrArg MV.tup ?_;refine List.cons_eq_cons.2 ⟨congrArg (MV.int .u64) ?_,rfl⟩;omega
theorem Ub (a b:Nat) (ha:bm a) (hb:bm b):aE Tryz.prog G 197 [.int .u64 a, .int .u64 b] (.tup [.int .u64 (lG a b).1, .bool (lG a b).2]):=by
 have c0:=HK (G:=G) a b ha hb;have c1:=Nj (G:=G) (a * b % 18446744073709551616) ((a * b / 18446744073709551616:Nat) == (0:Int));have sI:(.tup [.int .u64 (if ((a * b / 18446744073709551616:Nat) == (0:Int)) then a * b % 18446744073709551616 else 0:Nat), .bool ((a * b / 18446744073709551616:Nat) == (0:Int))] :MV)= .tup [.int .u64 (lG a b).1, .bool (lG a b).2] :=by
  unfold lG;generalize a * b=n;by_cases h:n < 18446744073709551616
  ·have e1:n / 18446744073709551616=0:=om;have e2:n % 18446744073709551616=n:=om;simp [h,e1,e2]
  ·have e1:((n / 18446744073709551616:Nat) == (0:Int))=false:=by rw [beq_eq_false_iff_ne];omega
   rw [e1];simp [h]
 rw [sI] at c1;generalize lG a b=p at *;generalize a * b=n at *;obtain⟨v,ok⟩:=p;refine bA seat Tryz.func197 20 ?_;refine aa ?_;refine dZ (c0) ?_;refine dZ (c1) ?_;refine au ?_;rfl
theorem FW (l:List Nat) (hl:l.length≤1000000) (hs: ∀a∈l,bm a):aE Tryz.prog G 123 [.sl l.length (fZ l)] (.tup [.int .u64 (sumG l 0).1, .bool (sumG l 0).2]):=by
 have h0:bm 0:=by unfold bm;omega
 generalize hv:sumG l 0=v;obtain⟨S,ok⟩:=v;dsimp only;refine bA seat Tryz.func123 26 ?_;refine aa ?_;refine av (Nat×Nat) (fun x=> [(11, .int .i64 x.1),(10, .int .i64 l.length),(9, .sl l.length (fZ l)),(4, .int .u64 x.2)]) (fun _=> []) 0 (fun x=>x.1≤l.length∧bm x.2∧sumG (l.drop x.1) x.2=(S,ok)) (fun x=>l.length - x.1) (0,0) ⟨a₄ _,h0,by rw [b₉];exact hv⟩ (vm [] []) ?_;clear hv;rintro⟨k,z⟩ ⟨hk,hz,hR⟩;try dsimp only
 dsimp only at hk hz hR;refine aa ?_;refine ad rfl ?_ ?_ <;> intro h
 ·have aC:k < l.length:=by have:=ot h;omega
  have aH:=aj.mk (Hj aC);have c1:=Ua (G:=G) z l[k] hz (hs _ (a₈ aC));have hza:bm (jA z l[k]).1:=by
   unfold jA;split
   ·assumption
   ·exact h0
  rw [a₇ aC,sumG] at hR;generalize l[k] =e at *;generalize jA z e=p at *;obtain⟨y,b⟩:=p;dsimp only at c1 hR hza;cases b with
  | true=>
   simp only [if_true] at hR;refine aa ?_;(iterate 4 ((all_goals(refine aa ?_));(all_goals(first | (refine ah rfl aA rfl (src (c1)) rfl rfl ?_) | ((first | refine ag rfl rfl ?_ rfl ?_ | refine ad rfl ?_ ?_);all_goals(intro h;(try simp only [pl] at h);(try (exfalso;omega)))) | skip))));exact⟨(k + 1,y),⟨by show k + 1≤l.length;omega,hza,hR⟩,by show l.length - (k + 1) < l.length - k;omega,(by dsimp only;exact(vm [] []))⟩
  | false=>
   simp only [Bool.false_eq_true,if_false,b₅] at hR;obtain⟨rfl,rfl⟩:=hR;refine aa ?_;(iterate 4 ((all_goals(refine aa ?_));(all_goals(first | (refine ah rfl aA rfl (src (c1)) rfl rfl ?_) | ((first | refine ag rfl rfl ?_ rfl ?_ | refine ad rfl ?_ ?_);all_goals(intro h;(try simp only [pl] at h);(try (exfalso;omega)))) | skip))));all_goals(refine au ?_)
   all_goals rfl
 ·have aC:k=l.length:=by have:=oF h;omega
  subst aC;rw [b₄,sumG] at hR;simp only [b₅] at hR;obtain⟨rfl,rfl⟩:=hR;refine aa ?_;all_goals(refine au ?_)
  all_goals rfl
theorem Nk (n:Int) (hn: -9223372036854775808≤n∧n < 9223372036854775808):aE Tryz.prog G 196 [.int .i64 n] (.int .u64 (limS n)):=by
 have hw:IntKind.u64.wrap (if 1073741824 < (if 0 > n then 0 else n) then 1073741824 else(if 0 > n then 0 else n))=(limS n:Int):=by
  rw [wu64];unfold limS;split <;> split <;> omega
 have e1:=aX.mk hw;refine bA seat Tryz.func196 7 ?_;refine aa ?_;refine au ?_;first | rfl | exact congrArg (MV.int .u64) hw | skip
 try (refine congrArg (MV.int .u64) ?_;rw [wu64];unfold limS;omega)
theorem ZQ (x:Nat) (hx:bm x):aE Tryz.prog G 249 [.int .u64 x] (.int .i64 (64 - (Lib.bitLen x:Int))):=by
 intro w P dY hg hP dj;cases dj with
 | cons h t=>
  cases t with
  | nil=>
   obtain rfl:=h.int_;refine(Tryz.bits_LeadingZeros64 (x:Int) w om (by unfold bm at hx;omega)).mono ?_;rintro e w' ⟨rfl,rfl⟩;exact⟨_,rfl, .val [_] .int,Below.refl _ _⟩
theorem Uc {m s:Nat} (hs:s < 64):IntKind.u64.wrap ((m:Int) * 2 ^ (min (s:Int).toNat IntKind.u64.bits))=((m * 2 ^ s % 18446744073709551616:Nat):Int):=by
 have e:min (s:Int).toNat IntKind.u64.bits=s:=by rw [Int.toNat_natCast];exact f₀ (Nat.le_of_lt hs)
 rw [e,wu64,show ((m:Int) * 2 ^ s)=((m * 2 ^ s:Nat):Int) by rw [b₀,f₁];rfl];omega
theorem ZR (m:Nat) {s:Nat} (hs:s≤64):((m:Int).fdiv (2 ^ (min ((64:Int) - (s:Int)).toNat IntKind.u64.bits)))=((m / 2 ^ (64 - s):Nat):Int):=by
 have e:min ((64:Int) - (s:Int)).toNat IntKind.u64.bits=64 - s:=by
  rw [show ((64:Int) - (s:Int)).toNat=64 - s by omega];exact f₀ (show 64 - s≤64 by omega)
 rw [e,d₃ _ (by exact Int.le_of_lt (Int.pow_pos (by decide))),Int.natCast_ediv,f₁];rfl
theorem Wo {a b s:Nat} (hs:s < 64) (hb:b < 2 ^ s) (h:a * 2 ^ s + b < 18446744073709551616):IntKind.u64.wrap ((BitVec.ofInt IntKind.u64.bits ((a * 2 ^ s:Nat):Int) ||| BitVec.ofInt IntKind.u64.bits (b:Int)).toNat:Int)=((a * 2 ^ s + b:Nat):Int):=by
 have e:a * 2 ^ s ||| b=a * 2 ^ s + b:=by
  have:=Nat.shiftLeft_add_eq_or_of_lt hb a;rw [Nat.shiftLeft_eq] at this;exact this.symm
 rw [BitVec.toNat_or,fQ _ _ (show a * 2 ^ s < 2 ^ IntKind.u64.bits by show _ < 18446744073709551616;omega),fQ _ _ (show b < 2 ^ IntKind.u64.bits by show _ < 18446744073709551616;omega),e,wu64];omega
theorem DQ {a b:Nat} (ha:a < 18446744073709551616):IntKind.u64.wrap (((a:Nat):Int) - ((a / b * b:Nat):Int))=((a % b:Nat):Int):=by
 have h:=a₂ a b;rw [a₅] at h;rw [wu64]
 with_reducible generalize a / b * b=c at *
 with_reducible generalize a % b=d at *
 omega
theorem DS {a b:Nat} (ha:a < 18446744073709551616):IntKind.u64.wrap (((a / b:Nat):Int) * (b:Int))=((a / b * b:Nat):Int):=by
 have h:=Nat.div_mul_le_self a b;rw [← b₀,wu64]
 with_reducible generalize a / b * b=c at *
 omega
theorem Nl (a b:Nat):IntKind.u64.wrap ((a:Int) * (b:Int))=((a * b % 18446744073709551616:Nat):Int):=by
 rw [wu64,← b₀];omega
theorem HL {A c d:Nat} (h:c + d=A) (hd:d < 18446744073709551616):IntKind.u64.wrap (((A % 18446744073709551616:Nat):Int) - ((c % 18446744073709551616:Nat):Int))=(d:Int):=by
 rw [wu64];omega
theorem Nn (U:Nat):IntKind.u64.wrap ((U:Int) * 4294967296)=((U * 4294967296 % 18446744073709551616:Nat):Int):=by rw [wu64];omega
theorem No (U u:Nat):IntKind.u64.wrap (((U * 4294967296 % 18446744073709551616:Nat):Int) + (u:Int))=(((U * 4294967296 + u) % 18446744073709551616:Nat):Int):=by rw [wu64];omega
theorem QU (hi lo y:Nat) (H3:bm lo) (hy:bm y) (eS:hi < y):aE Tryz.prog G 199 [.int .u64 hi, .int .u64 lo, .int .u64 y] (.tup [.int .u64 ((hi * 18446744073709551616 + lo) / y:Nat), .int .u64 ((hi * 18446744073709551616 + lo) % y:Nat)]):=by
 have Ze:0 < y:=om;unfold bm at H3 hy;by_cases h0:hi=0
 ·subst h0;rw [d₀,c₇];have f1:=bH.mk (show(y:Int)≠0 by omega);have f2:=aX.mk (CY (a:=lo) y H3);have f3:=aX.mk (Sg lo y);refine bA seat Tryz.func199 135 ?_;refine aa ?_;refine ad rfl ?_ ?_ <;> intro h
  ·exact absurd (eq_of_beq h) om
  refine aa ?_;refine ad rfl ?_ ?_ <;> intro h
  ·exact absurd (ot h) om
  refine aa ?_;refine al [ae 0,ae 1,ae 2,ae 3,ae 4,ae 5,ae 6,ae 7] ?_;refine aa ?_;refine au ?_;rfl
 have c1:=ZQ (G:=G) y hy;have kS:=Lib.bitLenAux_bounds 64 y hy om;have hL:Lib.bitLen y≤64:=Lib.bitLen_le y 64 (b₃ _) hy;obtain⟨s,hs⟩: ∃s,s=64 - Lib.bitLen y:=⟨_,rfl⟩
 have Kd:s < 64:=by have:=kS.1;unfold Lib.bitLen at hs;omega
 rw [show (64 - (Lib.bitLen y:Int))=(s:Int) by omega] at c1;have Yj:2 ^ s * 2 ^ (64 - s)=18446744073709551616:=by rw [← e₆,show s + (64 - s)=64 by omega]
 have Zs:0 < 2 ^ s:=c₉ s;have RF:y * 2 ^ s < 18446744073709551616:=by
  have h1:y * 2 ^ s < 2 ^ Lib.bitLen y * 2 ^ s:=Nat.mul_lt_mul_of_pos_right kS.2.2 Zs;rw [← e₆,show Lib.bitLen y + s=64 by omega] at h1;exact h1
 have c0w:9223372036854775808≤y * 2 ^ s:=by
  have h1:2 ^ (Lib.bitLen y - 1) * 2 ^ s≤y * 2 ^ s:=b₂ _ kS.2.1;rw [← e₆,show Lib.bitLen y - 1 + s=63 by have:=kS.1;unfold Lib.bitLen at hs ⊢;unfold Lib.bitLen at hL;omega] at h1;exact h1
 have hlq:lo / 2 ^ (64 - s) < 2 ^ s:=by rw [a₆ (c₉ _),Yj];exact H3
 have XU:hi * 2 ^ s + lo / 2 ^ (64 - s) < y * 2 ^ s:=by
  have h1:(hi + 1) * 2 ^ s≤y * 2 ^ s:=b₂ _ eS;rw [c₈] at h1;omega
 have hN:(hi * 18446744073709551616 + lo) * 2 ^ s=(hi * 2 ^ s + lo / 2 ^ (64 - s)) * 18446744073709551616 + lo * 2 ^ s % 18446744073709551616:=by
  have h1:lo * 2 ^ s / 18446744073709551616=lo / 2 ^ (64 - s):=by
   rw [← Yj,a₅ lo,Nat.mul_div_mul_left _ _ Zs]
  have h2:=a₂ (lo * 2 ^ s) 18446744073709551616;rw [h1] at h2;rw [d₇,Nat.mul_right_comm hi];omega
 have S4:=JF (hi * 18446744073709551616 + lo) y s;have Od:=JG (hi * 18446744073709551616 + lo) y s;rw [hN] at S4 Od;have hQb:(hi * 18446744073709551616 + lo) / y < 18446744073709551616:=by rw [a₆ Ze,a₅];have:=b₂ 18446744073709551616 (show hi + 1≤y from eS);omega
 obtain⟨QQ,hQg⟩: ∃x,x=(hi * 18446744073709551616 + lo) / y:=⟨_,rfl⟩
 obtain⟨RR,hRg⟩: ∃x,x=(hi * 18446744073709551616 + lo) % y:=⟨_,rfl⟩
 rw [← hQg] at S4 hQb ⊢;rw [← hRg] at Od ⊢;have e1:=aX.mk (Uc (m:=y) Kd);rw [e₈ RF] at e1;have e2:=aX.mk (Uc (m:=hi) Kd);have H6:hi * 2 ^ s < 18446744073709551616:=e₃ (Nat.le_add_right _ _) (d₄ XU RF);rw [e₈ H6] at e2;have e3:=aX.mk (ZR lo (Nat.le_of_lt Kd));have e4:=aX.mk (Wo (a:=hi) Kd hlq om);have e5:=aX.mk (Uc (m:=lo) Kd);have XK: ∀m:Nat,((m:Int).fdiv (2 ^ (min (s:Int).toNat IntKind.u64.bits)))=((m / 2 ^ s:Nat):Int):=fun m=>We m Kd
 clear hN hlq Yj kS hL;obtain⟨HS,hHS⟩: ∃x,x=hi * 2 ^ s:=⟨_,rfl⟩
 rw [← hHS] at XU S4 Od e2 H6 e4;obtain⟨LQ,hLQ⟩: ∃x,x=lo / 2 ^ (64 - s):=⟨_,rfl⟩
 rw [← hLQ] at XU S4 Od e3 e4;have hUb:lo * 2 ^ s % 18446744073709551616 < 18446744073709551616:=b₆ _ (by decide);obtain⟨U10,YL⟩: ∃x,x=lo * 2 ^ s % 18446744073709551616:=⟨_,rfl⟩
 rw [← YL] at S4 Od e5 hUb;obtain⟨Y,hYg⟩: ∃x,x=y * 2 ^ s:=⟨_,rfl⟩
 rw [← hYg] at RF c0w XU S4 Od e1;have e7:=aX.mk (iR Y);have e8:=aX.mk (i6 (m:=Y) RF);obtain⟨Y1,hY1⟩: ∃x,x=Y / 4294967296:=⟨_,rfl⟩
 obtain⟨Y0,hY0⟩: ∃x,x=Y % 4294967296:=⟨_,rfl⟩
 obtain⟨U,hU⟩: ∃x,x=HS + LQ:=⟨_,rfl⟩
 rw [← hY1] at e7;rw [← hY0] at e8;rw [← hU] at e4 XU S4 Od;have hYe:Y1 * 4294967296 + Y0=Y:=om;have R3:Y1 < 4294967296∧2147483648≤Y1:=om;have Ya:Y0 < 4294967296:=om;have b0a:U10 < 18446744073709551616:=hUb;have e9:=aX.mk (iR U10);have Vj:=aX.mk (i6 (m:=U10) b0a);obtain⟨U1,hU1⟩: ∃x,x=U10 / 4294967296:=⟨_,rfl⟩
 obtain⟨U0,hU0⟩: ∃x,x=U10 % 4294967296:=⟨_,rfl⟩
 rw [← hU1] at e9;rw [← hU0] at Vj;have b0m:U1 < 4294967296:=om;have a0m:U0 < 4294967296:=om;have UC:U < 18446744073709551616:=om;have k1:=Nh R3.1 R3.2 Ya (u:=U) om b0m;have k2:=Nh R3.1 R3.2 Ya (u:=(U * 4294967296 + U1) % Y) (by rw [hYe];exact b₆ _ om) a0m;rw [hYe] at k1 k2;have YP:=QS 4294967296 Y U U1 U0 om;have hdm:=DP 4294967296 Y U U1 U0;have hUU:U * (4294967296 * 4294967296) + (U1 * 4294967296 + U0)=U * 18446744073709551616 + U10:=by
  have h1:=a₂ U10 4294967296;rw [← hU1,← hU0,a₅] at h1;rw [h1]
 rw [hUU] at YP hdm;rw [S4] at YP;rw [← hdm] at Od;have Zb:=a₂ (U * 4294967296 + U1) Y;have Km:=b₆ (U * 4294967296 + U1) (show 0 < Y by omega);obtain⟨D,hD0⟩: ∃x,x=(U * 4294967296 + U1) / Y:=⟨_,rfl⟩
 obtain⟨R1,ZX⟩: ∃x,x=(U * 4294967296 + U1) % Y:=⟨_,rfl⟩
 rw [← hD0] at k1 YP Zb;rw [← ZX] at k2 YP Od Zb Km;have Zq:=a₂ (R1 * 4294967296 + U0) Y;have Kh:=b₆ (R1 * 4294967296 + U0) (show 0 < Y by omega);obtain⟨E,hE0⟩: ∃x,x=(R1 * 4294967296 + U0) / Y:=⟨_,rfl⟩
 obtain⟨R0,a0u⟩: ∃x,x=(R1 * 4294967296 + U0) % Y:=⟨_,rfl⟩
 rw [← hE0] at k2 YP Zq;rw [← a0u] at Od Zq Kh;rw [a₅] at Zb Zq;have hqD:U / Y1 < 17179869184:=by rw [a₆ om];omega
 have hqE:R1 / Y1 < 17179869184:=by rw [a₆ om];omega
 have hD:=k1;have hE:=k2;have hQQ:QQ < 18446744073709551616:=hQb;have hDb:D < 4294967296:=om;have g1:=bH.mk (show(Y1:Int)≠0 by omega);have g2:=aX.mk (CY (a:=U) Y1 UC);have g3:=aX.mk (DS (a:=U) (b:=Y1) UC);have g4:=aX.mk (DQ (a:=U) (b:=Y1) UC);have g5:=aX.mk (Nn U);have g6:=aX.mk (No U U1);have g7:=aX.mk (Nl D Y);have g8:=aX.mk (HL Zb om);have g9:=aX.mk (CY (a:=R1) Y1 om);have g10:=aX.mk (DS (a:=R1) (b:=Y1) om);have g11:=aX.mk (DQ (a:=R1) (b:=Y1) om);have g12:=aX.mk (Nn R1);have g13:=aX.mk (No R1 U0);have g14:=aX.mk (Nl E Y);have g15:=aX.mk (HL Zq om);have g16:=aX.mk (XK R0);have g17:=aX.mk (show IntKind.u64.wrap ((D:Int) * 4294967296)=((D * 4294967296:Nat):Int) by rw [wu64];omega);have g18:=aX.mk (show IntKind.u64.wrap (((D * 4294967296:Nat):Int) + (E:Int))=(QQ:Int) by rw [wu64];omega);have gs:=aX.mk (show IntKind.u64.wrap (s:Int)=(s:Int) by rw [wu64];omega);clear XK k1 k2;refine bA seat Tryz.func199 135 ?_;refine aa ?_;refine ad rfl ?_ ?_ <;> intro h
 ·exact absurd (eq_of_beq h) om
 refine aa ?_;refine ad rfl ?_ ?_ <;> intro h
 ·exact absurd (ot h) om
 refine aa ?_;refine ad rfl ?_ ?_ <;> intro h
 ·exact absurd (eq_of_beq h) om
 refine aa ?_;refine dZ (c1) ?_;refine rh Unit (fun _=> [(15, .int .u64 (D:Nat)),(11, .int .u64 (U:Nat)),(2, .int .u64 (Y:Nat)),(9, .int .u64 (Y1:Nat)),(10, .int .u64 (Y0:Nat)),(13, .int .u64 (U1:Nat)),(14, .int .u64 (U0:Nat)),(8, .int .u64 (s:Nat))]) (fun _=> []) (fun _=>0) (fun _=>True) (fun JQ hj=>?_) (fun _ _=>?_)
 ·refine av (Nat×Nat×Nat) (fun x=> [(15, .int .u64 (x.2.1:Nat)),(16, .int .u64 (x.2.2:Nat)),(11, .int .u64 (U:Nat)),(2, .int .u64 (Y:Nat)),(9, .int .u64 (Y1:Nat)),(10, .int .u64 (Y0:Nat)),(13, .int .u64 (U1:Nat)),(14, .int .u64 (U0:Nat)),(8, .int .u64 (s:Nat))]) (fun _=> []) 0 (fun x=>x.2.1 * Y1 + x.2.2=U∧x.2.2 < 4294967296∧4294967296≤x.2.2 + x.1 * Y1∧Su Y1 Y0 U1 x.1 x.2.1 x.2.2=D∧x.2.1 < 17179869184) (fun x=>x.1) (2,U / Y1,U % Y1) ⟨by dsimp only;rw [a₅];exact a₂ _ _,by dsimp only;exact d₄ (b₆ _ om) om,dm,hD,hqD⟩ (by dsimp only;exact(vm [] [])) ?_;rintro⟨f,q,r⟩ ⟨i1,i2,i3,i4,i5⟩;try dsimp only
  dsimp only at i1 i2 i3 i4 i5;obtain⟨f',rfl⟩: ∃f',f=f' + 1:=by
   cases f with
   | zero=>rw [d₀] at i3;omega
   | succ f=>exact ⟨f,rfl⟩
  rw [Su] at i4;rw [c₈] at i3;refine aa ?_;refine ag rfl rfl ?_ rfl ?_ <;> intro h
  ·have hq: ¬ 4294967296≤q:=by have:=oF h;omega
   have sM:q * Y0≤4294967295 * 4294967295:=e₀ om om;have m1:=aX.mk (show IntKind.u64.wrap ((q:Int) * (Y0:Int))=((q * Y0:Nat):Int) by rw [← b₀];exact bS _ om om);refine aa ?_;refine ad rfl ?_ ?_ <;> intro h
   ·have hc:=ot h;rw [if_pos (.inr om)] at i4;have S3:1≤q:=by
     cases q with
     | zero=>rw [d₀] at hc;omega
     | succ q=>omega
    refine aa ?_;refine ad rfl ?_ ?_ <;> intro h
    ·have hb:=ot h;rw [if_pos om] at i4;rw [← i4];refine aa ?_;refine hj.nrm () trivial ?_;rw [show ((q:Int) - 1)=((q - 1:Nat):Int) by omega];exact(vm [] [])
    ·have hb:=oF h;rw [if_neg om] at i4;refine aa ?_;refine⟨(f',q - 1,r + Y1),⟨?_,dm,dm,i4,dm⟩,by show f' < f' + 1;omega,?_⟩
     ·dsimp only;rw [d₈,d₂];have:Y1≤q * Y1:=b₈ _ S3;omega
     ·dsimp only;rw [show ((q - 1:Nat):Int)=(q:Int) - 1 by omega,show ((r + Y1:Nat):Int)=(r:Int) + Y1 by omega];exact(vm [] [])
   ·have hc:=oF h;rw [if_neg (fun h=>h.elim (fun h=>hq h) (fun h=>by omega))] at i4;rw [← i4];refine aa ?_;refine hj.nrm () trivial ?_;exact(vm [] [])
  ·have hq:4294967296≤q:=by have:=ot (by simpa using h:decide _=true);omega
   rw [if_pos (.inl hq)] at i4;refine aa ?_;refine ad rfl ?_ ?_ <;> intro h
   ·have hb:=ot h;rw [if_pos om] at i4;rw [← i4];refine aa ?_;refine hj.nrm () trivial ?_;rw [show ((q:Int) - 1)=((q - 1:Nat):Int) by omega];exact(vm [] [])
   ·have hb:=oF h;rw [if_neg om] at i4;refine aa ?_;refine⟨(f',q - 1,r + Y1),⟨?_,dm,dm,i4,dm⟩,by show f' < f' + 1;omega,?_⟩
    ·dsimp only;rw [d₈,d₂];have:Y1≤q * Y1:=b₈ _ om;omega
    ·dsimp only;rw [show ((q - 1:Nat):Int)=(q:Int) - 1 by omega,show ((r + Y1:Nat):Int)=(r:Int) + Y1 by omega];exact(vm [] [])
 refine aa ?_;refine rh Unit (fun _=> [(18, .int .u64 (E:Nat)),(15, .int .u64 (D:Nat)),(17, .int .u64 (R1:Nat)),(2, .int .u64 (Y:Nat)),(9, .int .u64 (Y1:Nat)),(10, .int .u64 (Y0:Nat)),(14, .int .u64 (U0:Nat)),(8, .int .u64 (s:Nat))]) (fun _=> []) (fun _=>0) (fun _=>True) (fun JQ hj=>?_) (fun _ _=>?_)
 ·refine av (Nat×Nat×Nat) (fun x=> [(18, .int .u64 (x.2.1:Nat)),(16, .int .u64 (x.2.2:Nat)),(15, .int .u64 (D:Nat)),(17, .int .u64 (R1:Nat)),(2, .int .u64 (Y:Nat)),(9, .int .u64 (Y1:Nat)),(10, .int .u64 (Y0:Nat)),(14, .int .u64 (U0:Nat)),(8, .int .u64 (s:Nat))]) (fun _=> []) 0 (fun x=>x.2.1 * Y1 + x.2.2=R1∧x.2.2 < 4294967296∧4294967296≤x.2.2 + x.1 * Y1∧Su Y1 Y0 U0 x.1 x.2.1 x.2.2=E∧x.2.1 < 17179869184) (fun x=>x.1) (2,R1 / Y1,R1 % Y1) ⟨by dsimp only;rw [a₅];exact a₂ _ _,by dsimp only;exact d₄ (b₆ _ om) om,dm,hE,hqE⟩ (by dsimp only;exact(vm [] [])) ?_;rintro⟨f,q,r⟩ ⟨i1,i2,i3,i4,i5⟩;try dsimp only
  dsimp only at i1 i2 i3 i4 i5;obtain⟨f',rfl⟩: ∃f',f=f' + 1:=by
   cases f with
   | zero=>rw [d₀] at i3;omega
   | succ f=>exact ⟨f,rfl⟩
  rw [Su] at i4;rw [c₈] at i3;refine aa ?_;refine ag rfl rfl ?_ rfl ?_ <;> intro h
  ·have hq: ¬ 4294967296≤q:=by have:=oF h;omega
   have sM:q * Y0≤4294967295 * 4294967295:=e₀ om om;have m1:=aX.mk (show IntKind.u64.wrap ((q:Int) * (Y0:Int))=((q * Y0:Nat):Int) by rw [← b₀];exact bS _ om om);refine aa ?_;refine ad rfl ?_ ?_ <;> intro h
   ·have hc:=ot h;rw [if_pos (.inr om)] at i4;have S3:1≤q:=by
     cases q with
     | zero=>rw [d₀] at hc;omega
     | succ q=>omega
    refine aa ?_;refine ad rfl ?_ ?_ <;> intro h
    ·have hb:=ot h;rw [if_pos om] at i4;rw [← i4];refine aa ?_;refine hj.nrm () trivial ?_;rw [show ((q:Int) - 1)=((q - 1:Nat):Int) by omega];exact(vm [] [])
    ·have hb:=oF h;rw [if_neg om] at i4;refine aa ?_;refine⟨(f',q - 1,r + Y1),⟨?_,dm,dm,i4,dm⟩,by show f' < f' + 1;omega,?_⟩
     ·dsimp only;rw [d₈,d₂];have:Y1≤q * Y1:=b₈ _ S3;omega
     ·dsimp only;rw [show ((q - 1:Nat):Int)=(q:Int) - 1 by omega,show ((r + Y1:Nat):Int)=(r:Int) + Y1 by omega];exact(vm [] [])
   ·have hc:=oF h;rw [if_neg (fun h=>h.elim (fun h=>hq h) (fun h=>by omega))] at i4;rw [← i4];refine aa ?_;refine hj.nrm () trivial ?_;exact(vm [] [])
  ·have hq:4294967296≤q:=by have:=ot (by simpa using h:decide _=true);omega
   rw [if_pos (.inl hq)] at i4;refine aa ?_;refine ad rfl ?_ ?_ <;> intro h
   ·have hb:=ot h;rw [if_pos om] at i4;rw [← i4];refine aa ?_;refine hj.nrm () trivial ?_;rw [show ((q:Int) - 1)=((q - 1:Nat):Int) by omega];exact(vm [] [])
   ·have hb:=oF h;rw [if_neg om] at i4;refine aa ?_;refine⟨(f',q - 1,r + Y1),⟨?_,dm,dm,i4,dm⟩,by show f' < f' + 1;omega,?_⟩
    ·dsimp only;rw [d₈,d₂];have:Y1≤q * Y1:=b₈ _ om;omega
    ·dsimp only;rw [show ((q - 1:Nat):Int)=(q:Int) - 1 by omega,show ((r + Y1:Nat):Int)=(r:Int) + Y1 by omega];exact(vm [] [])
 refine aa ?_;refine au ?_;rw [Od];exact rfl
theorem Be (a b c:Nat):fO a b c=fO b a c:=by unfold fO;rw [a₅]
theorem JH (a b c:Nat) (ha:bm a) (hb:bm b) (hc:bm c):aE Tryz.prog G 138 [.int .u64 a, .int .u64 b, .int .u64 c] (.tup [.int .u64 (fO a b c).1, .bool (fO a b c).2]):=by
 have c1:=HK (G:=G) a b ha hb;have hN:=a₂ (a * b) 18446744073709551616;have Kc:a * b % 18446744073709551616 < 18446744073709551616:=b₆ _ (by decide);unfold fO;obtain⟨hi,H6⟩: ∃x,x=a * b / 18446744073709551616:=⟨_,rfl⟩
 obtain⟨lo,H3⟩: ∃x,x=a * b % 18446744073709551616:=⟨_,rfl⟩
 rw [← H6,← H3] at c1;rw [← H6,← H3,a₅] at hN;rw [← H3] at Kc;rw [← H6,← hN];clear H6 H3 hN;by_cases h0:c=0∨c≤hi
 ·rw [if_pos h0];have hle:c≤hi:=om;refine bA seat Tryz.func138 29 ?_;refine aa ?_;refine dZ (c1) ?_;refine ad rfl ?_ ?_ <;> intro h
  ·refine aa ?_;refine au ?_;rfl
  ·exact absurd (oF h) om
 ·rw [if_neg h0];have eS:hi < c:=om;have c2:=QU (G:=G) hi lo c Kc hc eS;obtain⟨Q,hQ⟩: ∃x,x=(hi * 18446744073709551616 + lo) / c:=⟨_,rfl⟩
  rw [← hQ] at c2 ⊢;obtain⟨R,hR⟩: ∃x,x=(hi * 18446744073709551616 + lo) % c:=⟨_,rfl⟩
  rw [← hR] at c2;clear hQ hR;refine bA seat Tryz.func138 29 ?_;refine aa ?_;refine dZ (c1) ?_;refine ad rfl ?_ ?_ <;> intro h
  ·exact absurd (ot h) om
  ·refine aa ?_;refine dZ (c2) ?_;refine au ?_;rfl
theorem QV (fee gas:Nat) (h1:bm fee) (h2:bm gas):aE Tryz.prog G 88 [.int .u64 fee, .int .u64 gas] (.int .u64 (rK fee gas)):=by
 have c1:=JH (G:=G) 1000 fee gas (by unfold bm;omega) h1 h2;rw [Be] at c1;unfold rK;generalize fO fee 1000 gas=p at *;obtain⟨v,b⟩:=p;dsimp only at c1 ⊢;by_cases hg:gas=0
 ·subst hg;rw [if_pos rfl];refine bA seat Tryz.func88 18 ?_;refine aa ?_;(iterate 6 ((all_goals(refine aa ?_));(all_goals(first | (refine ah rfl aA rfl (src (c1)) rfl rfl ?_) | ((first | refine ag rfl rfl ?_ rfl ?_ | refine ad rfl ?_ ?_);all_goals(intro h;(try simp only [pl] at h);(try (exfalso;omega)))) | skip))));all_goals(refine au ?_)
  all_goals rfl
 ·rw [if_neg hg];cases b with
  | true=>
   rw [if_pos rfl];refine bA seat Tryz.func88 18 ?_;refine aa ?_;(iterate 6 ((all_goals(refine aa ?_));(all_goals(first | (refine ah rfl aA rfl (src (c1)) rfl rfl ?_) | ((first | refine ag rfl rfl ?_ rfl ?_ | refine ad rfl ?_ ?_);all_goals(intro h;(try simp only [pl] at h);(try (exfalso;omega)))) | skip))));all_goals(refine au ?_)
   all_goals rfl
  | false=>
   rw [if_neg sm];refine bA seat Tryz.func88 18 ?_;refine aa ?_;(iterate 6 ((all_goals(refine aa ?_));(all_goals(first | (refine ah rfl aA rfl (src (c1)) rfl rfl ?_) | ((first | refine ag rfl rfl ?_ rfl ?_ | refine ad rfl ?_ ?_);all_goals(intro h;(try simp only [pl] at h);(try (exfalso;omega)))) | skip))));all_goals(refine au ?_)
   all_goals rfl
theorem QW (a b:Nat) (ha:bm a) (hb:bm b):aE Tryz.prog G 135 [.int .u64 a, .int .u64 b] (.tup [.int .u64 (lG a b).1, .bool (lG a b).2]):=by
 have c1:=Ub (G:=G) a b ha hb;generalize lG a b=p at *;obtain⟨v,b⟩:=p;dsimp only at c1 ⊢;refine bA seat Tryz.func135 11 ?_;refine aa ?_;(iterate 6 ((all_goals(refine aa ?_));(all_goals(first | (refine ah rfl aA rfl (src (c1)) rfl rfl ?_) | ((first | refine ag rfl rfl ?_ rfl ?_ | refine ad rfl ?_ ?_);all_goals(intro h;(try simp only [pl] at h);(try (exfalso;omega)))) | skip))));all_goals(refine au ?_)
 all_goals rfl
theorem QX (x y:Int) (hx: -9223372036854775808≤x∧x < 9223372036854775808) (hy: -9223372036854775808≤y∧y < 9223372036854775808):aE Tryz.prog G 134 [.int .i64 x, .int .i64 y] (.int .u64 (n9 x y)):=by
 have c1:=Nk (G:=G) x hx;have c2:=Nk (G:=G) y hy;have l1:limS x≤1073741824:=by unfold limS;omega
 have l2:limS y≤1073741824:=by unfold limS;omega
 unfold n9;generalize limS x=u at *;generalize limS y=v at *;refine bA seat Tryz.func134 13 ?_;refine aa ?_;(iterate 4 ((all_goals(refine aa ?_));(all_goals(first | (refine ah rfl aA rfl (src (c1)) rfl rfl ?_) | (refine ah rfl aA rfl (src (c2)) rfl rfl ?_) | ((first | refine ag rfl rfl ?_ rfl ?_ | refine ad rfl ?_ ?_);all_goals(intro h;(try simp only [pl] at h);(try (exfalso;omega)))) | skip))));all_goals(refine au ?_)
 refine congrArg (MV.int .u64) ?_;omega
theorem HM (t:jX) (ht:jz t):aE Tryz.prog G 136 [pR t] (.tup [.int .u64 (fS t).1, .bool (fS t).2]):=by
 obtain⟨snd,seq,gas,fee,memo,trs⟩:=t;obtain⟨h1,h2,h3,h4,h5,h6,h7⟩:=ht;dsimp only at h1 h2 h3 h4 h5 h6 h7;have cs:=FW (G:=G) (fee :: trs.map (·.amt)) (by simp;omega) (by
  intro a ha;rcases c₂.1 ha with rfl | ha
  ·exact h4
  ·obtain⟨x,hx,rfl⟩:=List.mem_map.1 ha;exact(h7 x hx).2)
 unfold fS;dsimp only;generalize sumG (fee :: trs.map (·.amt)) 0=p at *;obtain⟨v,b⟩:=p;dsimp only at cs ⊢;unfold pR;dsimp only;have yE:(fee :: trs.map (·.amt)).length=trs.length + 1:=sm;refine bA seat Tryz.func136 27 ?_;refine aa ?_;refine av Nat (fun k=> [(13, .int .i64 k),(12, .int .i64 trs.length),(11, .sl trs.length (trs.map mU)),(4, .ms 0 1 0 (k + 1))]) (fun k=> [(0,⟨23,1,true,0,fZ (fee :: (trs.take k).map (·.amt))⟩)]) 1 (fun k=>k≤trs.length) (fun k=>trs.length - k) 0 (a₄ _) (by rw [f₄];exact(vm [(0,_)] [])) ?_;intro k hk;try dsimp only
 refine aa ?_;refine ad rfl ?_ ?_ <;> intro h
 ·have aC:k < trs.length:=by have:=ot h;omega
  have aH:=mH aC;have cW:=zk fee trs aC;have ni:(fZ (fee :: (trs.take k).map (·.amt))).length=k + 1:=by simp [fZ];omega
  generalize trs[k] =x at *;obtain⟨to_,amt⟩:=x;dsimp only at cW;replace aH:bI (trs.map mU) trs.length (k:Int)=some (.st [.str to_, .int .u64 amt]):=aH;have aH:=aj.mk aH;refine aa ?_;refine aO rfl rfl (by intro R hR;refine da hR ?_;(refine a₃ (b₃ _) ?_;refine⟨_,rfl,?_⟩;refine a₃ ⟨ni,ai (by kernel_rfl) pf⟩ ?_;refine⟨fZ (fee :: (trs.take (k + 1)).map (·.amt)),sv (by rw [cW];rfl),k + 1 + 1,sv pf,?_⟩);exact hR) rfl ?_;refine aa ?_;exact⟨k + 1,by show k + 1≤trs.length;omega,by show trs.length - (k + 1) < trs.length - k;omega,(by dsimp only;exact(vm [(0,_)] []))⟩
 ·have aC:k=trs.length:=by have:=oF h;omega
  subst aC;rw [e₉];generalize fee :: trs.map (·.amt)=Z at *;rw [← yE];refine aa ?_;refine cX rfl aA rfl (dL cs) rfl [(0,Z.length)] ⟨(by show Z.length≤(fZ Z).length;simp [fZ]),trivial⟩ lm ?_;refine aa ?_;refine au ?_;rfl
theorem DT: ∀(l:List bd) (s:Nat),sumG (l.map (·.bal)) s=totS l s
 | [],_=>rfl
 | a :: r,s=>by
  rw [List.map_cons,sumG,totS,DT r]
theorem DU (l:List bd) {c:Nat} (hc:bm c):sumG (c :: l.map (·.bal)) 0=totS l c:=by
 unfold bm at hc;rw [sumG,show jA 0 c=(c,true) by unfold jA;rw [if_pos om,c₇],if_pos rfl,DT]
theorem xu (f:Nat) (l:List bd) {k:Nat} (hk:k < l.length):fZ (f :: (l.take (k + 1)).map (·.bal))=fZ (f :: (l.take k).map (·.bal)) ++ [.int .u64 (l[k].bal:Int)] :=by
 rw [c₃ hk,c₅,← List.cons_append];unfold fZ;rw [c₅];rfl
theorem sj: ∀(x y:List UInt8),Op.bytesLess x y=decide (x < y)
 | [],[] =>by simp [Op.bytesLess]
 | _ :: _,[] =>by simp [Op.bytesLess]
 | [],_ :: _=>by simp [Op.bytesLess]
 | a :: x,b :: y=>by
  rw [Op.bytesLess,sj x y]
  simp only [List.cons_lt_cons_iff]
  by_cases h1:a < b <;> by_cases h2:a=b <;> by_cases h3:x < y <;> simp [h1,h2,h3]
theorem less_irr (x:List UInt8):Op.bytesLess x x=false:=by rw [sj];simp [List.lt_irrefl]
theorem iW {x y z:List UInt8} (h:Op.bytesLess x y=true) (k:Op.bytesLess y z=true):Op.bytesLess x z=true:=by
 rw [sj,decide_eq_true_eq] at h k ⊢;exact List.lt_trans h k
theorem JI {x y:List UInt8} (h:Op.bytesLess x y=true):Op.bytesLess y x=false:=by
 cases hk:Op.bytesLess y x with
 | false=>rfl
 | true=>have:=iW h hk;rw [less_irr] at this;cases this
theorem xv {x y:List UInt8} (h:Op.bytesLess x y=false) (gf:x≠y):Op.bytesLess y x=true:=by
 rw [sj,decide_eq_false_iff_not,List.not_lt] at h;rw [sj,decide_eq_true_eq];exact Std.lt_of_le_of_ne h (Ne.symm gf)
theorem Np (l:List bd) (col:Nat) (hc:bm col) (hl:l.length≤100000) (hs: ∀a∈l,bm a.bal):aE Tryz.prog G 74 [.st [.sl l.length (l.map aV), .int .u64 col]] (.tup [.int .u64 (totS l col).1, .bool (totS l col).2]):=by
 have cs:=FW (G:=G) (col :: l.map (·.bal)) (by simp;omega) (by
  intro a ha;rcases c₂.1 ha with rfl | ha
  ·exact hc
  ·obtain⟨x,hx,rfl⟩:=List.mem_map.1 ha;exact hs x hx)
 rw [DU l hc] at cs;generalize totS l col=p at *;obtain⟨v,b⟩:=p;dsimp only at cs ⊢;have yE:(col :: l.map (·.bal)).length=l.length + 1:=sm;refine bA seat Tryz.func74 27 ?_;refine aa ?_;refine av Nat (fun k=> [(13, .int .i64 k),(12, .int .i64 l.length),(11, .sl l.length (l.map aV)),(4, .ms 0 1 0 (k + 1))]) (fun k=> [(0,⟨23,1,true,0,fZ (col :: (l.take k).map (·.bal))⟩)]) 1 (fun k=>k≤l.length) (fun k=>l.length - k) 0 (a₄ _) (by rw [f₄];exact(vm [(0,_)] [])) ?_;intro k hk;try dsimp only
 refine aa ?_;refine ad rfl ?_ ?_ <;> intro h
 ·have aC:k < l.length:=by have:=ot h;omega
  have aH:=fN aC;have cW:=xu col l aC;have ni:(fZ (col :: (l.take k).map (·.bal))).length=k + 1:=by simp [fZ];omega
  generalize l[k] =x at *;obtain⟨nm,bal,seq⟩:=x;dsimp only at cW;replace aH:bI (l.map aV) l.length (k:Int)=some (.st [.str nm, .int .u64 bal, .int .u64 seq]):=aH;have aH:=aj.mk aH;refine aa ?_;refine aO rfl rfl (by intro R hR;refine da hR ?_;(refine a₃ (b₃ _) ?_;refine⟨_,rfl,?_⟩;refine a₃ ⟨ni,ai (by kernel_rfl) pf⟩ ?_;refine⟨fZ (col :: (l.take (k + 1)).map (·.bal)),sv (by rw [cW];rfl),k + 1 + 1,sv pf,?_⟩);exact hR) rfl ?_;refine aa ?_;exact⟨k + 1,by show k + 1≤l.length;omega,by show l.length - (k + 1) < l.length - k;omega,(by dsimp only;exact(vm [(0,_)] []))⟩
 ·have aC:k=l.length:=by have:=oF h;omega
  subst aC;rw [e₉];generalize col :: l.map (·.bal)=Z at *;rw [← yE];refine aa ?_;refine cX rfl aA rfl (dL cs) rfl [(0,Z.length)] ⟨(by show Z.length≤(fZ Z).length;simp [fZ]),trivial⟩ lm ?_;refine aa ?_;refine au ?_;rfl
theorem HN (s:List UInt8):aE Tryz.prog G 126 [.str s] (.bool false):=by
 have e1:=aX.mk (show(!(s == s))=false by simp);refine bA seat Tryz.func126 6 ?_;refine yu ?_;refine au ?_;try simp
 try rfl
def kA (a b:List UInt8):Int:=if Op.bytesLess a b=true then -1 else if (!(Op.bytesLess a b || a == b))=true then 1 else 0
theorem JJ (a b:List UInt8):aE Tryz.prog G 77 [.str a, .str b] (.int .i64 (kA a b)):=by
 have c1:=HN (G:=G) a;have c2:=HN (G:=G) b;unfold kA;by_cases h1:Op.bytesLess a b=true
 ·rw [if_pos h1];refine bA seat Tryz.func77 20 ?_;refine aa ?_;refine dZ (c1) ?_;refine dZ (c2) ?_;refine ad rfl ?_ ?_ <;> intro h
  ·refine aa ?_;refine au ?_;rfl
  ·exact absurd h1 (by rw [h];simp)
 ·rw [if_neg h1];by_cases h2:(!(Op.bytesLess a b || a == b))=true
  ·rw [if_pos h2];refine bA seat Tryz.func77 20 ?_;refine aa ?_;refine dZ (c1) ?_;refine dZ (c2) ?_;refine ad rfl ?_ ?_ <;> intro h
   ·exact absurd h h1
   refine aa ?_;refine ad rfl ?_ ?_ <;> intro h
   ·refine aa ?_;refine au ?_;rfl
   ·exact absurd h2 (by rw [h];simp)
  ·rw [if_neg h2];refine bA seat Tryz.func77 20 ?_;refine aa ?_;refine dZ (c1) ?_;refine dZ (c2) ?_;refine ad rfl ?_ ?_ <;> intro h
   ·exact absurd h h1
   refine aa ?_;refine ad rfl ?_ ?_ <;> intro h
   ·exact absurd h h2
   ·refine aa ?_;refine au ?_;rfl
theorem Bf (a b:List UInt8):kA a b < 0↔Op.bytesLess a b=true:=by
 unfold kA;split
 ·rename_i h;simp [h]
 ·rename_i h;split <;> simp [h]
theorem Ud {a b:List UInt8} (h:kA a b=0):a=b:=by
 unfold kA at h;split at h
 ·exact absurd h (by decide)
 ·rename_i h1;split at h
  ·exact absurd h (by decide)
  ·rename_i h2;simpa [h1] using h2
theorem cmpN_self (a:List UInt8):kA a a=0:=by
 unfold kA;simp [less_irr]
theorem sn (a:bd) (s:List UInt8):aE Tryz.prog G 195 [aV a, .str s] (.int .i64 (kA a.name s)):=by
 have c1:=JJ (G:=G) a.name s;unfold aV;refine bA seat Tryz.func195 9 ?_;refine aa ?_;refine dZ (c1) ?_;refine au ?_;rfl
theorem JK (L:eh) (hL:fG L):aE Tryz.prog G 85 [eo L] (.int .i64 (gC L)):=by
 obtain⟨l,col⟩:=L;obtain⟨hl,tV,eP⟩:=hL;dsimp only at hl tV eP;have ct:=Np (G:=G) l col tV om (fun a ha=>(eP a ha).2.1);generalize hQ:gC ⟨l,col⟩=Q;unfold gC at hQ;dsimp only at hQ;unfold eo;dsimp only;by_cases hn:256 < l.length
 ·rw [if_pos hn] at hQ;subst hQ;refine bA seat Tryz.func85 62 ?_;refine aa ?_;(iterate 6 ((all_goals(refine aa ?_));(all_goals(first | ((first | refine ag rfl rfl ?_ rfl ?_ | refine ad rfl ?_ ?_);all_goals(intro h;(try simp only [pl] at h);(try (exfalso;omega)))) | skip))));all_goals(refine au ?_)
  all_goals rfl
 rw [if_neg hn] at hQ;generalize hv:FB none l=v at *;generalize totS l col=p at *;obtain⟨tot,ok⟩:=p;dsimp only at ct hQ;refine bA seat Tryz.func85 62 ?_;refine aa ?_;(iterate 3 ((all_goals(refine aa ?_));(all_goals(first | ((first | refine ag rfl rfl ?_ rfl ?_ | refine ad rfl ?_ ?_);all_goals(intro h;(try simp only [pl] at h);(try (exfalso;omega)))) | skip))));refine av Nat (fun k=> [(14, .int .i64 k),(13, .int .i64 l.length),(12, .sl l.length (l.map aV)),(1, .ptr 0 2 0 0 [])]) (fun _=> [(0,⟨33,2,false,0,[.st [.sl l.length (l.map aV), .int .u64 col]]⟩)]) 1 (fun k=>k≤l.length∧FB (mV l k) (l.drop k)=v) (fun k=>l.length - k) 0 ⟨a₄ _,by rw [b₉];exact hv⟩ (vm [(0,_)] []) ?_;clear hv;rintro k ⟨hk,hR⟩;try dsimp only
 refine aa ?_;refine ad rfl ?_ ?_ <;> intro h
 ·have aC:k < l.length:=by have:=ot h;omega
  have aH:=fN aC;have OH:mV l (k + 1)=some l[k].name:=by show(l[k]?).map _=_;simp [aC]
  have c1:=va (G:=G) l[k].name (by have:=(eP _ (a₈ aC)).1;omega);rw [a₇ aC,rL] at hR;rw [← OH] at hR;have Gr:mV l (k + 1)=some l[k].name:=OH;rw [Gr] at hR;generalize hak:l[k] =a at *;obtain⟨nm,bal,seq⟩:=a;replace aH:bI (l.map aV) l.length (k:Int)=some (.st [.str nm, .int .u64 bal, .int .u64 seq]):=aH;have aH:=aj.mk aH;dsimp only at hR c1;by_cases oH:eD nm=false
  ·rw [oH] at c1;rw [if_pos oH] at hR;subst hR;rw [if_pos om] at hQ;subst hQ;refine aa ?_;(iterate 6 ((all_goals(refine aa ?_));(all_goals(first | (refine ah rfl aA rfl (src (c1)) rfl rfl ?_) | ((first | refine ag rfl rfl ?_ rfl ?_ | refine ad rfl ?_ ?_);all_goals(intro h;(try simp only [pl] at h);(try (exfalso;omega)))) | skip))));all_goals(refine au ?_)
   all_goals rfl
  rw [if_neg oH] at hR;have oH:eD nm=true:=by simpa using oH
  rw [oH] at c1;cases k with
  | zero=>
   dsimp only [mV] at hR;have hR:FB (mV l (0 + 1)) (l.drop (0 + 1))=v:=by rw [Gr];exact hR
   refine aa ?_;(iterate 3 ((all_goals(refine aa ?_));(all_goals(first | (refine ah rfl aA rfl (src (c1)) rfl rfl ?_) | ((first | refine ag rfl rfl ?_ rfl ?_ | refine ad rfl ?_ ?_);all_goals(intro h;(try simp only [pl] at h);(try (exfalso;omega)))) | skip))));refine al [ae 0,ae 1,ae 2,ae 3,ae 4,ae 5,ae 6,ae 7,ae 8,ae 9,ae 10,ae 11,ae 12,ae 13,ae 14] ?_;refine aa ?_;refine al [ae 0,ae 1,ae 2,ae 3,ae 4,ae 5,ae 6,ae 7,ae 8,ae 9,ae 10,ae 11,ae 12,ae 13,ae 14] ?_;refine aa ?_;exact⟨0 + 1,⟨by show 0 + 1≤l.length;omega,hR⟩,by show l.length - (0 + 1) < l.length - 0;omega,(by dsimp only;exact(vm [(0,_)] []))⟩
  | succ j=>
   have hj:j < l.length:=om;have Bs:=fN hj;have hpj:mV l (j + 1)=some l[j].name:=by show(l[j]?).map _=_;simp [hj]
   rw [hpj] at hR;generalize l[j] =b at *;obtain⟨nb,bb,sb⟩:=b;replace Bs:bI (l.map aV) l.length (((j + 1:Nat):Int) - 1)=some (.st [.str nb, .int .u64 bb, .int .u64 sb]):=by rw [show ((j + 1:Nat):Int) - 1=(j:Int) by omega];exact Bs
   have Bs:=aj.mk Bs;dsimp only at hR;refine aa ?_;(iterate 3 ((all_goals(refine aa ?_));(all_goals(first | (refine ah rfl aA rfl (src (c1)) rfl rfl ?_) | ((first | refine ag rfl rfl ?_ rfl ?_ | refine ad rfl ?_ ?_);all_goals(intro h;(try simp only [pl] at h);(try (exfalso;omega)))) | skip))));refine al [ae 0,ae 1,ae 2,ae 3,ae 4,ae 5,ae 6,ae 7,ae 8,ae 9,ae 10,ae 11,ae 12,ae 13,ae 14] ?_;refine aa ?_;refine ez rfl rfl ?_ rfl ?_ <;> intro h
   rotate_left
   ·exact absurd (oF h) om
   by_cases hd:nb=nm
   ·subst hd;rw [if_pos rfl] at hR;subst hR;rw [if_pos om] at hQ;subst hQ;refine yu ?_;(iterate 4 ((all_goals(refine aa ?_));(all_goals(first | ((first | refine ag rfl rfl ?_ rfl ?_ | refine ad rfl ?_ ?_);all_goals(intro h;(try simp only [pl] at h);(try (exfalso;omega)))) | skip))));all_goals(refine au ?_)
    all_goals rfl
   rw [if_neg hd] at hR;refine aa ?_;refine ad rfl ?_ ?_ <;> intro h
   ·exact absurd (eq_of_beq h) hd
   refine aa ?_;refine al [ae 0,ae 1,ae 2,ae 3,ae 4,ae 5,ae 6,ae 7,ae 8,ae 9,ae 10,ae 11,ae 12,ae 13,ae 14] ?_;refine aa ?_;refine ez rfl rfl ?_ rfl ?_ <;> intro h
   rotate_left
   ·exact absurd (oF h) om
   refine aa ?_;refine ad rfl ?_ ?_ <;> intro h
   ·rw [if_pos h] at hR;subst hR;rw [if_pos om] at hQ;subst hQ;refine aa ?_;refine au ?_;rfl
   ·rw [if_neg (by rw [h];simp)] at hR;refine aa ?_;exact⟨j + 1 + 1,⟨by show j + 1 + 1≤l.length;omega,by rw [Gr];exact hR⟩,by show l.length - (j + 1 + 1) < l.length - (j + 1);omega,(by dsimp only;exact(vm [(0,_)] []))⟩
 ·have aC:k=l.length:=by have:=oF h;omega
  subst aC;rw [b₄,Hl] at hR;subst hR;rw [if_neg sm] at hQ;cases ok with
  | true=>
   rw [if_neg sm] at hQ;subst hQ;refine aa ?_;(iterate 6 ((all_goals(refine aa ?_));(all_goals(first | (refine ah rfl aA rfl (src (ct)) rfl rfl ?_) | ((first | refine ag rfl rfl ?_ rfl ?_ | refine ad rfl ?_ ?_);all_goals(intro h;(try simp only [pl] at h);(try (exfalso;omega)))) | skip))));all_goals(refine au ?_)
   all_goals rfl
  | false=>
   rw [if_pos rfl] at hQ;subst hQ;refine aa ?_;(iterate 6 ((all_goals(refine aa ?_));(all_goals(first | (refine ah rfl aA rfl (src (ct)) rfl rfl ?_) | ((first | refine ag rfl rfl ?_ rfl ?_ | refine ad rfl ?_ ?_);all_goals(intro h;(try simp only [pl] at h);(try (exfalso;omega)))) | skip))));all_goals(refine au ?_)
   all_goals rfl
end
section
def eN (l:List bd):Prop:=l.Pairwise fun a b=>Op.bytesLess a.name b.name=true
def posA (nm:List UInt8) (l:List bd):Nat:=(l.takeWhile fun a=>Op.bytesLess a.name nm).length
theorem posA_cons (nm:List UInt8) (a:bd) (r:List bd):posA nm (a :: r)=if Op.bytesLess a.name nm=true then posA nm r + 1 else 0:=by
 unfold posA;rw [List.takeWhile_cons];split <;> simp [*]
theorem mO (nm:List UInt8): ∀l,posA nm l≤l.length
 | [] =>b₃ _
 | a :: r=>by
  rw [posA_cons]
  have:=mO nm r
  split
  ·simp;omega
  ·exact a₄ _
theorem so {nm:List UInt8}: ∀{l:List bd},eN l→∀{k:Nat} (hk:k < l.length),Op.bytesLess l[k].name nm=true↔k < posA nm l
 | [],_,_,hk=>absurd hk (f₂ _)
 | a :: r,hs,k,hk=>by
  have lV:=a₁.1 hs
  rw [posA_cons]
  cases k with
  | zero=>
   rw [List.getElem_cons_zero]
   split
   ·rename_i h;simp [h]
   ·rename_i h;simp [h]
  | succ k=>
   rw [List.getElem_cons_succ]
   have aC:k < r.length:=by simpa using hk
   have ih:=so (nm:=nm) lV.2 aC
   split
   ·rw [ih];omega
   ·rename_i h
    refine⟨fun h2=>absurd (iW (lV.1 _ (a₈ aC)) h2) h,fun h2=>absurd h2 (f₂ _)⟩
theorem fE {nm:List UInt8}: ∀{l:List bd},eN l→((bE l nm).2=true∧l[posA nm l]? =some (bE l nm).1∧(bE l nm).1.name=nm)∨((bE l nm).2=false∧∀a∈l,a.name≠nm)
 | [],_=> .inr ⟨rfl,sm⟩
 | a :: r,hs=>by
  have lV:=a₁.1 hs
  by_cases h:a.name=nm
  ·have e:bE (a :: r) nm=(a,true):=by unfold bE;rw [List.find?_cons_of_pos (by simp [h])]
   rw [e,posA_cons,h,less_irr]
   exact .inl ⟨rfl,rfl,by first | rfl | exact h⟩
  ·have e:bE (a :: r) nm=bE r nm:=by unfold bE;rw [c₀ (by simp [h])]
   rw [e,posA_cons]
   rcases fE (nm:=nm) lV.2 with ⟨h1,h2,h3⟩ | ⟨h1,h2⟩
   ·have eS:Op.bytesLess a.name nm=true:=by
     have:=lV.1 _ (d₁ h2)
     rwa [h3] at this
    rw [if_pos eS]
    exact .inl ⟨h1,by rw [List.getElem?_cons_succ];exact h2,h3⟩
   ·exact .inr ⟨h1,fun x hx=>(c₂.1 hx).elim (fun e=>e▸h) (h2 x)⟩
theorem HO {nm:List UInt8} {l:List bd} (hs:eN l) (hk:posA nm l < l.length):(kA l[posA nm l].name nm == 0)=(bE l nm).2:=by
 rcases fE (nm:=nm) hs with ⟨h1,h2,h3⟩ | ⟨h1,h2⟩
 ·rw [List.getElem?_eq_getElem hk] at h2;simp only [Option.some.injEq] at h2;rw [h2,h3,cmpN_self,h1];rfl
 ·rw [h1,beq_eq_false_iff_ne];exact fun h=>h2 _ (a₈ hk) (Ud h)
theorem HP {nm:List UInt8} {l:List bd} (hs:eN l) (hk: ¬ posA nm l < l.length):(bE l nm).2=false:=by
 rcases fE (nm:=nm) hs with ⟨h1,h2,h3⟩ | ⟨h1,h2⟩
 ·rw [List.getElem?_eq_none (Nat.le_of_not_lt hk)] at h2;cases h2
 ·exact h1
theorem sr {nm:List UInt8}: ∀{l:List bd} {i:Nat},(∀a∈l,a.name≠nm)→gm nm l i= -1
 | [],_,_=>rfl
 | a :: r,i,h=>by rw [gm,if_neg (h a (e₄ ..))];exact sr fun x hx=>h x (e₁ _ hx)
theorem tO {nm:List UInt8}: ∀{l:List bd} {i:Nat},eN l→(bE l nm).2=true→gm nm l i=((i + posA nm l:Nat):Int)
 | [],_,_,h=>by cases h
 | a :: r,i,hs,h=>by
  have lV:=a₁.1 hs
  rw [gm,posA_cons]
  by_cases e:a.name=nm
  ·rw [if_pos e,e,less_irr];rfl
  ·have e2:bE (a :: r) nm=bE r nm:=by unfold bE;rw [c₀ (by simp [e])]
   rw [e2] at h
   have eS:Op.bytesLess a.name nm=true:=by
    rcases fE (nm:=nm) lV.2 with ⟨_,h2,h3⟩ | ⟨h1,_⟩
    ·have:=lV.1 _ (d₁ h2)
     rwa [h3] at this
    ·rw [h1] at h;cases h
   rw [if_neg e,if_pos eS,tO (nm:=nm) lV.2 h]
   congr 1
   omega
theorem oA {a:bd} {l:List bd} (hs:eN l) (h:(bE l a.name).2=true):gq a l=l.set (posA a.name l) a:=by
 unfold gq;rw [tO hs h,c₇,if_pos om];rfl
theorem ss {a:bd} {l:List bd} (hs:eN l) (h:(bE l a.name).2=false):gq a l=l.take (posA a.name l) ++ a :: l.drop (posA a.name l):=by
 unfold gq;have H5: ∀x∈l,x.name≠a.name:=by
  rcases fE (nm:=a.name) hs with ⟨h1,_,_⟩ | ⟨_,h2⟩
  ·rw [h1] at h;cases h
  ·exact h2
 rw [sr H5,if_neg (by decide)];refine AV a l _ (mO _ _) (fun j hj eS=>(so hs hj).2 eS) (fun hk=>?_);cases hb:Op.bytesLess l[posA a.name l].name a.name with
 | false=>rfl
 | true=>exact absurd ((so hs hk).1 hb) (Nat.lt_irrefl _)
theorem HQ {a:bd}: ∀{l:List bd},eN l→(bE l a.name).2=true→eN (l.set (posA a.name l) a)
 | [],_,h=>by cases h
 | b :: r,hs,h=>by
  have lV:=a₁.1 hs
  rw [posA_cons]
  by_cases e:b.name=a.name
  ·rw [e,less_irr,if_neg sm,List.set_cons_zero]
   exact a₁.2 ⟨fun x hx=>by rw [← e];exact lV.1 x hx,lV.2⟩
  ·have e2:bE (b :: r) a.name=bE r a.name:=by unfold bE;rw [c₀ (by simp [e])]
   rw [e2] at h
   have eS:Op.bytesLess b.name a.name=true:=by
    rcases fE (nm:=a.name) lV.2 with ⟨_,h2,h3⟩ | ⟨h1,_⟩
    ·have:=lV.1 _ (d₁ h2)
     rwa [h3] at this
    ·rw [h1] at h;cases h
   rw [if_pos eS,List.set_cons_succ]
   refine a₁.2 ⟨fun x hx=>?_,HQ lV.2 h⟩
   rcases List.mem_or_eq_of_mem_set hx with hx | rfl
   ·exact lV.1 x hx
   ·exact eS
theorem DV {a:bd}: ∀{l:List bd},eN l→(∀x∈l,x.name≠a.name)→eN (rJ a l)
 | [],_,_=>List.pairwise_singleton _ _
 | b :: r,hs,h=>by
  have lV:=a₁.1 hs
  rw [rJ]
  split
  ·rename_i eS
   refine a₁.2 ⟨fun x hx=>?_,DV lV.2 fun x hx=>h x (e₁ _ hx)⟩
   rcases w6 hx with rfl | hx
   ·exact eS
   ·exact lV.1 x hx
  ·rename_i eS
   have Kg:Op.bytesLess a.name b.name=true:=xv (by simpa using eS) (h b (e₄ ..))
   refine a₁.2 ⟨fun x hx=>?_,hs⟩
   rcases c₂.1 hx with rfl | hx
   ·exact Kg
   ·exact iW Kg (lV.1 x hx)
theorem su {a:bd} {l:List bd} (hs:eN l):eN (gq a l):=by
 cases h:(bE l a.name).2 with
 | true=>rw [oA hs h];exact HQ hs h
 | false=>
  have H5: ∀x∈l,x.name≠a.name:=by
   rcases fE (nm:=a.name) hs with ⟨h1,_,_⟩ | ⟨_,h2⟩
   ·rw [h1] at h;cases h
   ·exact h2
  unfold gq;rw [sr H5,if_neg (by decide)];exact DV hs H5
theorem Nq: ∀{l:List bd} {q:List UInt8},FB (some q) l=0→(∀a∈l,Op.bytesLess q a.name=true)∧eN l
 | [],_,_=>⟨sm,List.Pairwise.nil⟩
 | a :: r,q,h=>by
  rw [rL] at h
  dsimp only at h
  split at h
  ·exact absurd h (by decide)
  ·split at h
   ·exact absurd h (by decide)
   ·rename_i gf
    split at h
    ·exact absurd h (by decide)
    ·rename_i im
     have hqa:Op.bytesLess q a.name=true:=by
      cases hb:Op.bytesLess q a.name with
      | true=>rfl
      | false=>rw [hb] at im;exact absurd (by simpa using im) gf
     obtain⟨h1,h2⟩:=Nq h
     refine⟨fun x hx=>?_,a₁.2 ⟨h1,h2⟩⟩
     rcases c₂.1 hx with rfl | hx
     ·exact hqa
     ·exact iW hqa (h1 x hx)
theorem zH {l:eh} (h:gC l=0):eN l.acs∧l.acs.length≤256:=by
 unfold gC at h;split at h
 ·exact absurd h (by decide)
 ·rename_i hn;split at h
  ·rename_i h1;exact absurd h h1
  ·rename_i h1;have h1:=Decidable.not_not.1 h1;refine⟨?_,om⟩;generalize l.acs=z at h1;cases z with
   | nil=>exact List.Pairwise.nil
   | cons a r=>
    rw [rL] at h1;dsimp only at h1;split at h1
    ·exact absurd h1 (by decide)
    ·exact a₁.2 (Nq h1)
end
section
variable {G:GS}
attribute [local irreducible] ak aB aD aJ aQ vC aY aw
theorem DX (l:List bd):bg (l.map aV) 3=true:=by
 cases l with
 | nil=>rfl
 | cons a r=>rfl
theorem JL (l:List bd) (hl:l.length < 536870912):aT Tryz.prog G 78 [.sl l.length (l.map aV)] [] 0 (.sl l.length (l.map aV)) [] 0:=by
 refine dK seat Tryz.func78 8 ?_;refine aa ?_;refine Lj rfl rfl (fun b hb=>?_);cases b with
 | true=>
  have h0:=hb rfl;have h1:l= [] :=d₅.1 h0;subst h1;refine aa ?_;refine au ?_;exact en [_]
 | false=>
  refine aa ?_;refine aO rfl rfl (by intro R hR;refine da hR ?_;refine a₃ ((DX l)) ?_;refine a₃ ⟨rfl,ai (by kernel_rfl) pf⟩ ?_;refine⟨l.map aV,sv (by show [] ++ l.map aV=_;rw [c₆]),l.length,sv pf,?_⟩;exact hR) rfl ?_;refine aa ?_;refine⟨[_],[],[(5,l.length)],rfl,rfl,?_,rfl,⟨?_,trivial⟩,?_⟩
  ·exact⟨by show l.length≤(l.map aV).length;simp,trivial⟩
  ·exact .inr ⟨rfl,rfl,rfl,c₄ (c₇ _),bc aV l⟩
  ·exact mm
theorem tP (l:eh) (hl:l.acs.length < 536870912):aT Tryz.prog G 46 [eo l] [] 0 (eo l) [] 0:=by
 obtain⟨acs,col⟩:=l;have c1:=JL (G:=G) acs hl;unfold eo;dsimp only at hl ⊢;refine dK seat Tryz.func46 8 ?_;refine aa ?_;refine jn (c1) ?_;refine au ?_;exact en [_]
def dE (l:List bd):MB:=⟨91,3,true,0,l.map aV⟩
theorem JM (l:List bd) (hl:l.length < 536870912):aT Tryz.prog G 78 [.sl l.length (l.map aV)] [] 0 (.ms 0 3 0 l.length) [(0,dE l)] 1:=by
 unfold dE;refine dK seat Tryz.func78 8 ?_;refine aa ?_;refine Lj rfl rfl (fun b hb=>?_);cases b with
 | true=>
  have h0:=hb rfl;have h1:l= [] :=d₅.1 h0;subst h1;refine aa ?_;refine au ?_;exact en [_]
 | false=>
  refine aa ?_;refine aO rfl rfl (by intro R hR;refine da hR ?_;refine a₃ ((DX l)) ?_;refine a₃ ⟨rfl,ai (by kernel_rfl) pf⟩ ?_;refine⟨l.map aV,sv (by show [] ++ l.map aV=_;rw [c₆]),l.length,sv pf,?_⟩;exact hR) rfl ?_;refine aa ?_;exact eb [_] [(0,5)] []
theorem DY (l:eh) (hl:l.acs.length < 536870912):aT Tryz.prog G 46 [eo l] [] 0 (.st [.ms 0 3 0 l.acs.length, .int .u64 l.col]) [(0,dE l.acs)] 1:=by
 obtain⟨acs,col⟩:=l;have c1:=JM (G:=G) acs hl;unfold eo;unfold dE at c1 ⊢;dsimp only at hl c1 ⊢;refine dK seat Tryz.func46 8 ?_;refine aa ?_;refine yc (c1) [] ?_;refine aa ?_;refine au ?_;exact eb [_] [(0,4)] []
theorem Sv (m:Nat):((m:Int).fdiv (2 ^ (min (1:Int).toNat IntKind.u64.bits)))=((m / 2:Nat):Int):=by
 rw [show (2:Int) ^ (min (1:Int).toNat IntKind.u64.bits)=2 by rfl,d₃ _ (by decide)];omega
theorem Ue {l:List bd} {k:Nat} (h:k < l.length):cE (l.map aV) (0 + k)=some (aV l[k]):=by rw [bZ,Nat.zero_add,List.getElem?_map,List.getElem?_eq_getElem h];rfl
theorem Nr (l:List bd) (nm:List UInt8) (hl:l.length≤100000) (hs:eN l):aE Tryz.prog G 194 [.sl l.length (l.map aV), .str nm, .fn 195 []] (.tup [.int .i64 (posA nm l), .bool (bE l nm).2]):=by
 refine bA seat Tryz.func194 49 ?_;refine aa ?_;refine av (Nat×Nat) (fun x=> [(9, .int .i64 x.1),(10, .int .i64 x.2),(8, .int .i64 l.length),(2, .fn 195 []),(1, .str nm),(0, .sl l.length (l.map aV))]) (fun _=> []) 0 (fun x=>x.1≤posA nm l∧posA nm l≤x.2∧x.2≤l.length) (fun x=>x.2 - x.1) (0,l.length) ⟨a₄ _,mO _ _,b₃ _⟩ (vm [] []) ?_;rintro⟨i,j⟩ ⟨h1,h2,h3⟩;try dsimp only
 dsimp only at h1 h2 h3;refine aa ?_;refine ad rfl ?_ ?_ <;> intro h
 ·have Oj:i < j:=by have:=ot h;omega
  have k2:=aX.mk (show(((i:Int) + (j:Int)).fdiv (2 ^ (min (1:Int).toNat IntKind.u64.bits)))=(((i + j) / 2:Nat):Int) by rw [← f₃];exact Sv (i + j));have k4:=aX.mk (show IntKind.i64.wrap (((i + j) / 2:Nat):Int)=(((i + j) / 2:Nat):Int) by rw [IntKind.wrap_i64];omega);have hm:(i + j) / 2 < l.length:=om;have hmi:i≤(i + j) / 2∧(i + j) / 2 < j:=om;have aH:=fN hm;have c1:=sn (G:=G) l[(i + j) / 2] nm;have jD:=so hs hm (nm:=nm);have sG:=Bf l[(i + j) / 2].name nm;generalize kA l[(i + j) / 2].name nm=cv at *;generalize l[(i + j) / 2] =a at *;obtain⟨an,ab,aq⟩:=a;unfold aV at c1;dsimp only at c1 jD sG;replace aH:bI (l.map aV) l.length (((i + j) / 2:Nat):Int)=some (.st [.str an, .int .u64 ab, .int .u64 aq]):=aH;have aH:=aj.mk aH;refine aa ?_;refine dZ (c1) ?_;refine ad rfl ?_ ?_ <;> intro h
  ·have eS:(i + j) / 2 < posA nm l:=jD.1 (sG.1 (ot h));refine aa ?_;exact⟨((i + j) / 2 + 1,j),⟨dm,h2,h3⟩,dm,(by dsimp only;exact(vm [] []))⟩
  ·have eS: ¬ (i + j) / 2 < posA nm l:=fun hh=>oF h (sG.2 (jD.2 hh))
   refine aa ?_;exact⟨(i,(i + j) / 2),⟨h1,dm,dm⟩,dm,(by dsimp only;exact(vm [] []))⟩
 ·have Oj: ¬ i < j:=by have:=oF h;omega
  have hi:i=posA nm l:=om;subst hi;clear h1 h2 h3 Oj;by_cases hp:posA nm l < l.length
  ·have aH:=fN hp;have c1:=sn (G:=G) l[posA nm l] nm;have Gh:=HO hs hp;rw [← Gh];generalize kA l[posA nm l].name nm=cv at *;generalize l[posA nm l] =a at *;obtain⟨an,ab,aq⟩:=a;unfold aV at c1;dsimp only at c1;replace aH:bI (l.map aV) l.length ((posA nm l:Nat):Int)=some (.st [.str an, .int .u64 ab, .int .u64 aq]):=aH;generalize posA nm l=pp at *;have aH:=aj.mk aH;refine aa ?_;rw [show decide ((pp:Int) < (l.length:Int))=true from decide_eq_true om];refine aa ?_;refine dZ (c1) ?_;refine au ?_;rfl
  ·have Gh:=HP hs hp;rw [Gh];generalize posA nm l=pp at *;refine aa ?_;rw [show decide ((pp:Int) < (l.length:Int))=false from decide_eq_false om];refine aa ?_;refine au ?_;rfl
theorem DZ (l:eh) (nm:List UInt8) (hl:l.acs.length≤100000) (hs:eN l.acs):aE Tryz.prog G 133 [eo l, .str nm] (.tup [.int .i64 (posA nm l.acs), .bool (bE l.acs nm).2]):=by
 obtain⟨acs,col⟩:=l;dsimp only at hl hs ⊢;have c1:=Nr (G:=G) acs nm hl hs;generalize (bE acs nm).2=hh at *;generalize posA nm acs=pp at *;unfold eo;dsimp only;refine bA seat Tryz.func133 12 ?_;refine aa ?_;refine dZ (c1) ?_;refine au ?_;rfl
theorem Ns (l:List bd) (nm:List UInt8) (hl:l.length≤100000) (hs:eN l):aT Tryz.prog G 194 [.ms 0 3 0 l.length, .str nm, .fn 195 []] [(0,dE l)] 1 (.tup [.int .i64 (posA nm l), .bool (bE l nm).2]) [(0,dE l)] 1:=by
 unfold dE;refine dK seat Tryz.func194 49 ?_;refine aa ?_;refine av (Nat×Nat) (fun x=> [(9, .int .i64 x.1),(10, .int .i64 x.2),(8, .int .i64 l.length),(2, .fn 195 []),(1, .str nm),(0, .ms 0 3 0 l.length)]) (fun _=> [(0,⟨91,3,true,0,l.map aV⟩)]) 1 (fun x=>x.1≤posA nm l∧posA nm l≤x.2∧x.2≤l.length) (fun x=>x.2 - x.1) (0,l.length) ⟨a₄ _,mO _ _,b₃ _⟩ (vm [] []) ?_;rintro⟨i,j⟩ ⟨h1,h2,h3⟩;try dsimp only
 dsimp only at h1 h2 h3;refine aa ?_;refine ad rfl ?_ ?_ <;> intro h
 ·have Oj:i < j:=by have:=ot h;omega
  have k2:=aX.mk (show(((i:Int) + (j:Int)).fdiv (2 ^ (min (1:Int).toNat IntKind.u64.bits)))=(((i + j) / 2:Nat):Int) by rw [← f₃];exact Sv (i + j));have k4:=aX.mk (show IntKind.i64.wrap (((i + j) / 2:Nat):Int)=(((i + j) / 2:Nat):Int) by rw [IntKind.wrap_i64];omega);have hm:(i + j) / 2 < l.length:=om;have hmi:i≤(i + j) / 2∧(i + j) / 2 < j:=om;have aH:=Ue hm;have c1:=sn (G:=G) l[(i + j) / 2] nm;have jD:=so hs hm (nm:=nm);have sG:=Bf l[(i + j) / 2].name nm;generalize kA l[(i + j) / 2].name nm=cv at *;generalize l[(i + j) / 2] =a at *;obtain⟨an,ab,aq⟩:=a;unfold aV at c1;dsimp only at c1 jD sG;replace aH:cE (l.map aV) (0 + (i + j) / 2)=some (.st [.str an, .int .u64 ab, .int .u64 aq]):=aH;have aH:=aj.mk aH;refine aa ?_;refine dZ (c1) ?_;refine ad rfl ?_ ?_ <;> intro h
  ·have eS:(i + j) / 2 < posA nm l:=jD.1 (sG.1 (ot h));refine aa ?_;exact⟨((i + j) / 2 + 1,j),⟨dm,h2,h3⟩,dm,(by dsimp only;exact(vm [] []))⟩
  ·have eS: ¬ (i + j) / 2 < posA nm l:=fun hh=>oF h (sG.2 (jD.2 hh))
   refine aa ?_;exact⟨(i,(i + j) / 2),⟨h1,dm,dm⟩,dm,(by dsimp only;exact(vm [] []))⟩
 ·have Oj: ¬ i < j:=by have:=oF h;omega
  have hi:i=posA nm l:=om;subst hi;clear h1 h2 h3 Oj;by_cases hp:posA nm l < l.length
  ·have aH:=Ue hp;have c1:=sn (G:=G) l[posA nm l] nm;have Gh:=HO hs hp;rw [← Gh];generalize kA l[posA nm l].name nm=cv at *;generalize l[posA nm l] =a at *;obtain⟨an,ab,aq⟩:=a;unfold aV at c1;dsimp only at c1;replace aH:cE (l.map aV) (0 + posA nm l)=some (.st [.str an, .int .u64 ab, .int .u64 aq]):=aH;generalize posA nm l=pp at *;have aH:=aj.mk aH;refine aa ?_;rw [show decide ((pp:Int) < (l.length:Int))=true from decide_eq_true om];refine aa ?_;refine dZ (c1) ?_;refine au ?_;exact en [_,_]
  ·have Gh:=HP hs hp;rw [Gh];generalize posA nm l=pp at *;refine aa ?_;rw [show decide ((pp:Int) < (l.length:Int))=false from decide_eq_false om];refine aa ?_;refine au ?_;exact en [_,_]
theorem Nt (l:List bd) (col:Int) (nm:List UInt8) (hl:l.length≤100000) (hs:eN l):aT Tryz.prog G 133 [.st [.ms 0 3 0 l.length, .int .u64 col], .str nm] [(0,dE l)] 1 (.tup [.int .i64 (posA nm l), .bool (bE l nm).2]) [(0,dE l)] 1:=by
 have c1:=Ns (G:=G) l nm hl hs;generalize (bE l nm).2=hh at *;generalize posA nm l=pp at *;unfold dE at *;refine dK seat Tryz.func133 12 ?_;refine aa ?_;refine yc (c1) [(0,0)] ?_;refine aa ?_;exact en [_,_]
end
end Go.Proofs.YtohikcplmbkmeaaGreatDoor
