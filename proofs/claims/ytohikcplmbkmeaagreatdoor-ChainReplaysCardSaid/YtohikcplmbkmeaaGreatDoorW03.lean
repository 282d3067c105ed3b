/- Parts of a proof. -/
import Derived.Test.YtohikcplmbkmeaaGreatDoorW02
open Bool renaming and_eq_true → a₀,noConfusion → a₃,not_eq_true' → b₁,or_eq_true → c₆
open Nat renaming blt → a₄,beq → a₆,le_refl → b₂,eq_of_beq_eq_true → c₂,le_trans → c₃,mod_eq_of_lt → c₅,lt_or_ge → c₇,mul_le_mul_right → c₉,ble → d₁,blt_eq → d₈,sub_zero → e₄,mul_comm → e₅,pow_succ → e₆,zero_le → e₉,div_add_mod → f₉
open List renaming toArray → a₅,length_append → a₇,mem_map → a₈,mem_map_of_mem → a₉,mem_cons → b₀,all_eq_true → b₃,getElem?_eq_some_iff → b₄,map_cons → b₅,length_cons → b₆,range → b₇,append_assoc → b₉,mem_range → c₀,mem_append → c₁,zipWith → c₄,length_singleton → c₈,nodup_cons → d₄,map_append → d₅,append_nil → d₆,drop_left → d₇,pairwise_append → d₉,pairwise_cons → e₃,nodup_append → e₇,length_range → e₈,append → f₀,length_take → f₂,length_drop → f₄,mem_filter → f₅,all_append → f₇,length_map → f₈,length_nil → g₁
open And renaming intro → b₈
open Int renaming fdiv_eq_ediv_of_nonneg → d₀,natCast_emod → d₂,toNat_of_nonneg → e₁,natCast_ediv → f₃,natCast_pow → g₀
open Prod renaming ext → d₃
open Prod.mk renaming injEq → e₀
open Option renaming getD_some → f₁,map_some → f₆
set_option maxRecDepth 20000
set_option maxHeartbeats 16000000
set_option linter.unusedVariables false
set_option linter.unusedSimpArgs false
namespace Go.Proofs.YtohikcplmbkmeaaGreatDoor
open Go.RowKit
section
theorem E5 (m:FM) (l l':List (Nat×Nat)):dH (dH m l) l'=dH (dH m l') l:=by
 funext c;rw [bumpF_get,bumpF_get,bumpF_get,bumpF_get];cases m c with
 | none=>rfl
 | some b=>simp [Nat.max_assoc,Nat.max_comm (mxB l c)]
theorem wg (m:FM) (l:List (Nat×Nat)):fX m (dH m l):=fun c b h=>⟨{ b with pe:=Nat.max b.pe (mxB l c) },by rw [bumpF_get,h];rfl,rfl,rfl,rfl,rfl⟩
theorem wh (m:FM) (l:List (Nat×Nat)):fX (dH m l) m:=fun c b h=>by
 rw [bumpF_get] at h;cases hb:m c with
 | none=>rw [hb] at h;cases h
 | some b'=>rw [hb] at h;injection h with h;subst h;exact⟨b',rfl,rfl,rfl,rfl,rfl⟩
theorem IN {m:FM} {j:Nat} (h:m j=none) (b:MB):fX m (aR m j b):=fun c b' hb=>by
 have:aR m j b c=some b':=by
  unfold aR;rw [if_neg]
  ·exact hb
  ·rintro rfl;rw [h] at hb;cases hb
 exact⟨b',this,rfl,rfl,rfl,rfl⟩
theorem IP {m:FM} {j:Nat} {b:MB} {l:List (Nat×Nat)} (h:m j=none) (hl: ∀c∈l,m c.1≠none):dH (aR m j b) l=aR (dH m l) j b:=by
 have h0: ∀{l:List (Nat×Nat)},(∀c∈l,m c.1≠none)→mxB l j=0:=by
  intro l
  induction l with
  | nil=>intro _;rfl
  | cons x l ih=>
   intro hl;obtain⟨k,n⟩:=x;have:k≠j:=by rintro rfl;exact hl (k,n) sm h
   simp only [mxB,this,if_false];exact ih fun c hc=>hl c (by simp [hc])
 funext c;rw [bumpF_get];unfold aR;by_cases hc:c=j
 ·subst hc;simp [h0 hl]
 ·simp only [hc,if_false];rw [bumpF_get]
theorem yU {α:Type} {m:Nat→Option α} {i j:Nat} {a b:α} (h:i≠j):aR (aR m i a) j b=aR (aR m j b) i a:=by
 funext c;unfold aR;by_cases h1:c=i
 ·subst h1;simp [h]
 ·simp [h1]
section
variable (Pg:Program) (T:bD) (N:Nat) (ents:List FuncId) (G:GS)
def gh (e:Nat→Option MV) (f:Operand) (args:List Operand):bz (FuncId×List MV):=
 rd e f fun fv=>oM e args fun vs=>match fv with
  | .fn f0 caps=> .ret (f0,vs ++ caps)
  | _=> .bad
def yq (o:Oper) (n:Nat) (e:Nat→Option MV) (m:FM) (fp:List Nat) (r:MV) (m':FM):Prop:=match o.op with
 | .call c=>match c.callee with
  | .value f=>(gh e f c.args.toList).runP fun x=>ents.contains x.1=true∧∃M,VM.get M=m∧nz Pg G M n x.1 x.2 fp fun r' M'=>r'=r∧VM.get M'=m'
  | _=>False
 | _=>False
def KZ (ops:Array Oper) (o:Oper) (n:Nat) (e:Nat→Option MV) (m:FM) (fp:List Nat) (r:MV) (m':FM):Prop:=
 ∃b,EZ ops o e=some b∧(b=true→yq Pg ents G o n e m fp r m')∧(b=false→r= .undef∧m'=m)
def dR (ops:Array Oper) (rf:Bool) (o:Oper) (n:Nat) (fp:List Nat) (e:Nat→Option MV) (m:FM) (e':Nat→Option MV) (m':FM):Prop:=
 ∃r,(∀d,o.dst=some d→d < N)∧e'=mr o.dst r e∧match rf with
  | false=> ∃δ,pz Pg T ents G ops o e m n r δ∧m'=δ.appF n m∧fp=numsO e o.op.operands.toList
  | true=>KZ Pg ents G ops o n e m fp r m'
end
section
variable {Pg:Program} {T:bD} {N:Nat} {ents:List FuncId} {G:GS} {ops:Array Oper} {o x y:Oper} {e e1 e2 e':Nat→Option MV} {m m1 m2 m':FM} {M M2:VM} {i j n:Nat} {fp fx fy:List Nat} {rf rx ry:Bool} {r:MV}
theorem iZ {d:Option Tmp} {r:MV} {e:Nat→Option MV} {l:List Tmp} (h: ∀t,d=some t→t ∉ l): ∀t∈l,mr d r e t=e t:=by
 intro t ht;cases d with
 | none=>rfl
 | some d=>
  show aR e d r t=e t
  unfold aR;rw [if_neg];rintro rfl;exact h _ rfl ht
theorem oQ {d d':Option Tmp} {r r':MV} (h: ∀t,d=some t→d'≠some t):mr d r (mr d' r' e)=mr d' r' (mr d r e):=by
 cases d with
 | none=>rfl
 | some d=>
  cases d' with
  | none=>rfl
  | some d'=>exact yU fun hh=>h d rfl (by rw [hh])
theorem yV {t:Operand} (h: ∀t∈o.looksAt ops,e t=e' t) (ht:t∈o.op.operands.toList):jL e t=jL e' t:=KS fun s hs=>h s (by
 subst hs;unfold Oper.looksAt;refine c₁.2 (.inl ?_);rw [List.mem_filterMap];exact⟨_,ht,rfl⟩)
theorem qU (h: ∀t∈o.looksAt ops,e t=e' t):numsO e o.op.operands.toList=numsO e' o.op.operands.toList:=by
 have key: ∀l:List Operand,(∀x∈l,jL e x=jL e' x)→numsO e l=numsO e' l:=by
  intro l
  induction l with
  | nil=>intro _;rfl
  | cons x l ih=>intro h;simp only [numsO];rw [h x sm,ih fun y hy=>h y (by simp [hy])]
 exact key _ fun x hx=>yV h hx
theorem Ti (h: ∀t∈o.looksAt ops,e t=e' t):EZ ops o e=EZ ops o e':=by
 unfold EZ;split
 ·rfl
 ·rename_i j want hg;split
  ·rfl
  ·rename_i s hs;rw [h s (by
    unfold Oper.looksAt;rw [hg];simp [hs])]
theorem O9 (h: ∀t∈o.looksAt ops,e t=e' t):yq Pg ents G o n e m fp r m'→yq Pg ents G o n e' m fp r m':=by
 have hh: ∀x∈o.op.operands.toList,jL e x=jL e' x:=fun x hx=>yV h hx
 unfold yq;split
 ·rename_i c hc;split
  ·rename_i f hf;rw [hc,we hf] at hh;have:gh e f c.args.toList=gh e' f c.args.toList:=by
    unfold gh;rw [dQ (hh f sm)];congr 1;funext v;rw [qe fun x hx=>hh x (by simp [hx])]
   rw [this];exact id
  ·exact id
 ·exact id
theorem Pc (h: ∀t∈o.looksAt ops,e t=e' t):KZ Pg ents G ops o n e m fp r m'→KZ Pg ents G ops o n e' m fp r m':=by
 rintro⟨b,h1,h2,h3⟩;exact⟨b,by rw [← Ti h];exact h1,fun hb=>O9 h (h2 hb),h3⟩
theorem Cv {l S:List Nat} (h:yi l S=true): ∀c∈l,c∈S:=by
 intro c hc;unfold yi at h;rw [b₃] at h;obtain⟨x,hx,he⟩:=List.any_eq_true.1 (h c hc);rw [← c₂ he];exact hx
theorem kN: ∀(σ:List (Nat×Nat)) (M:VM) (x:Nat),x ∉ σ.map (·.2)→VM.get (jw M σ) x=VM.get M x
 | [],M,x,_=>rfl
 | (c,d) :: σ,M,x,h=>by
  simp only [b₅,b₀,not_or] at h
  show VM.get (jw (VM.del M d) σ) x=_
  rw [kN σ _ x h.2,VM.get_del]
  unfold jJ
  rw [if_neg h.1]
theorem uj: ∀(σ:List (Nat×Nat)) (M:VM) (x:Nat),x∈σ.map (·.2)→VM.get (jw M σ) x=none:=by
 intro σ M x h;cases hx:VM.get (jw M σ) x with
 | none=>rfl
 | some b=>
  obtain⟨_,h2⟩:=nA σ M x b hx;obtain⟨⟨c,d⟩,h3,rfl⟩:=a₈.1 h;exact absurd h3 (h2 c)
theorem IQ {bs:List (Nat×Nat)} {c:Nat} (h:c ∉ bs.map (·.1)):VM.get (VM.bump M bs) c=VM.get M c:=by
 rw [VM.get_bump,bumpF_get];have:mxB bs c=0:=by
  induction bs with
  | nil=>rfl
  | cons x l ih=>
   obtain⟨k,n⟩:=x;simp only [b₅,b₀,not_or] at h;simp only [mxB];rw [if_neg fun hh=>h.1 (Eq.symm hh)];exact ih h.2
 rw [this];cases VM.get M c with
 | none=>rfl
 | some b=>simp
theorem Cw {bs:List (Nat×Nat)} {c:Nat} (h:VM.get M2 c=VM.get M c):VM.get (VM.bump M2 bs) c=VM.get (VM.bump M bs) c:=by
 rw [VM.get_bump,VM.get_bump,bumpF_get,bumpF_get,h]
theorem fg.loc {args vs:List MV} {M0:VM} {n0:Nat} {σ bs:List (Nat×Nat)} (h:fg 0 args M0 n0 vs M σ bs) (ha:xR (VM.get M2) (VM.get M) fp) (h1: ∀c∈σ.map (·.2),c∈fp) (h2: ∀c∈bs.map (·.1),c∈fp):fg 0 args M0 n0 vs M2 σ bs:=by
 obtain⟨q1,q2,q3,q4,q5⟩:=h;have hb:EP M2 bs:=by
  clear q4 q5
  induction bs with
  | nil=>trivial
  | cons x l ih=>
   obtain⟨c,k⟩:=x;refine⟨?_,ih (fun c hc=>h2 c (by simp at hc ⊢;exact .inr hc)) q2.2⟩;rw [ha c (h2 c sm)];exact q2.1
 have hf:lU M2 bs=lU M bs:=by
  clear q2 q4 q5 hb
  induction bs with
  | nil=>rfl
  | cons x l ih=>
   obtain⟨c,k⟩:=x;funext d
   show(bif a₆ c d then(match VM.get M2 d with | some b=>some (b,k) | none=>none) else lU M2 l d)=(bif a₆ c d then(match VM.get M d with | some b=>some (b,k) | none=>none) else lU M l d)
   by_cases e:c=d
   ·subst e;rw [ha c (h2 c sm)];simp
   ·simp only [ir e,cond_false];rw [ih fun c hc=>h2 c (by simp at hc ⊢;exact .inr hc)]
 refine⟨q1,hb,q3,by rw [hf];exact q4,?_⟩;rw [hf];clear q3 q4
 induction M0 with
 | nil=>trivial
 | cons x M0 ih=>
  obtain⟨c,b'⟩:=x;refine⟨?_,ih q5.2⟩;rcases q5.1 with h | ⟨c0,b,s1,s2,s3⟩
  ·exact .inl h
  ·have pW:c0∈fp:=h1 c0 (a₈.2 ⟨(c,c0),gx (show oP σ c=some c0 from s1),rfl⟩);exact .inr ⟨c0,b,s1,by rw [Cw (ha c0 pW)];exact s2,s3⟩
theorem AA {ρ:Nat→Nat} {x:Nat}: ∀{M1:VM},(∀z∈M1,ρ z.1≠x)→VM.get (kU ρ M1) x=none
 | [],_=>rfl
 | (c,b) :: M1,h=>by
  show VM.get ((ρ c,_) :: kU ρ M1) x=none
  rw [VM.get_cons,if_neg (h (c,b) sm)]
  exact AA fun z hz=>h z (by simp [hz])
theorem K0 (h:yq Pg ents G o n e (VM.get M) fp r m') (ha:xR (VM.get M2) (VM.get M) fp):(∃M2',yq Pg ents G o n e (VM.get M2) fp r (VM.get M2')∧∀c,VM.get M2 c=VM.get M c→VM.get M2' c=m' c)∧∀c,c ∉ fp→c≠n→m' c=VM.get M c:=by
 unfold yq at h ⊢;split at h
 ·rename_i c hc;split at h
  ·rename_i f hf;have key: ∀{K:FuncId×List MV→Prop},(gh e f c.args.toList).runP K→∃x,K x∧∀K':FuncId×List MV→Prop,K' x→(gh e f c.args.toList).runP K':=by
    intro K hK;unfold gh at hK ⊢;obtain⟨a,h1,h2,h3⟩:=(af.rd fun fv=>af.rds fun vs=>by cases fv <;> first | exact af.ret _ | exact af.bad) K hK;exact⟨a,h2,h3⟩
   obtain⟨x,⟨hx,M',XS,args,M0,n0,res,M1,n1,sK,σ,bs,hL,xJ,hk,s1,s2,rfl,rfl⟩,X8⟩:=key h;have Ep:=Cv s1;have SF:=Cv s2;have ha':xR (VM.get M2) (VM.get M') fp:=fun c hc=>by rw [XS];exact ha c hc
   have b0v:jj M2 σ=true:=by
    clear hL hk sK h
    induction σ with
    | nil=>rfl
    | cons z σ ih=>
     obtain⟨p,q⟩:=z;have xJ:((VM.get M' q).isSome && jj M' σ)=true:=xJ
     show((VM.get M2 q).isSome && jj M2 σ)=true
     rw [a₀] at xJ ⊢;rw [ha' q (Ep q sm)];refine⟨xJ.1,ih xJ.2 ?_ fun c hc=>Ep c (by simp at hc ⊢;exact .inr hc)⟩;unfold yi at s1 ⊢;simp only [b₅,List.all_cons,a₀] at s1;exact s1.2
   refine⟨⟨_,X8 _ ⟨hx,M2,rfl,args,M0,n0,res,M1,n1,sK,σ,bs,hL.loc ha' Ep SF,b0v,hk,s1,s2,rfl,rfl⟩,fun c hc=>?_⟩,fun c hc Ot=>?_⟩
   ·rw [get_app,get_app];have:VM.get (jw (VM.bump M2 bs) σ) c=VM.get (jw (VM.bump M' bs) σ) c:=by
     by_cases hs:c∈σ.map (·.2)
     ·rw [uj _ _ _ hs,uj _ _ _ hs]
     ·rw [kN _ _ _ hs,kN _ _ _ hs,Cw (by rw [XS];exact hc)]
    rw [this]
   ·rw [get_app,AA fun z hz=>?_]
    ·show VM.get (jw (VM.bump M' bs) σ) c=_
     rw [kN _ _ _ fun hs=>hc (Ep c hs),IQ fun hs=>hc (SF c hs),XS]
    ·unfold kC;cases hd:oP σ z.1 with
     | none=>exact fun h=>Ot h.symm
     | some d=>
      rintro rfl;exact hc (Ep _ (a₈.2 ⟨(z.1,d),gx hd,rfl⟩))
  ·exact h.elim
 ·exact h.elim
theorem E6 (h1:dR Pg T N ents G ops false x i fx e m e1 m1) (h2:dR Pg T N ents G ops false y j fy e1 m1 e2 m2) (ha:x.apart ops y=true) (hc:okC (sN x) (sN y)=true) (Oj:i≠j) (_hi:m i=none) (hj:m j=none) :
  ∃e' m',dR Pg T N ents G ops false y j fy e m e' m'∧dR Pg T N ents G ops false x i fx e' m' e2 m2:=by
 obtain⟨rx,dx,rfl,δx,ax,rfl,nx⟩:=h1
 obtain⟨ry,dy,rfl,δy,ay,rfl,ny⟩:=h2
 obtain⟨p1,p2,p3⟩:=Oper.apart_spec ha
 have RB:pz Pg T ents G ops y e (δx.appF i m) j ry δy:=wc (iZ p1) ay
 have ex: ∀{m'},pz Pg T ents G ops x e m' i rx δx→pz Pg T ents G ops x (mr y.dst ry e) m' i rx δx:=wc fun t ht=>(iZ p3 t ht).symm
 have pJ:=oQ (e:=e) (d:=y.dst) (d':=x.dst) (r:=ry) (r':=rx) fun t h h'=>p2 t h' h
 suffices h:pz Pg T ents G ops y e m j ry δy∧pz Pg T ents G ops x e (δy.appF j m) i rx δx∧δy.appF j (δx.appF i m)=δx.appF i (δy.appF j m) from
  ⟨_,_,⟨ry,dy,rfl,δy,h.1,rfl,ny.trans (qU (iZ p1))⟩,⟨rx,dx,pJ,δx,ex h.2.1,h.2.2,nx.trans (qU fun t ht=>(iZ p3 t ht).symm)⟩⟩
 have ox:=wb ax
 have oy:=wb RB
 match hx:sN x,hy:sN y,hc with
 | 0,_,_=>
  rw [hx] at ox
  obtain rfl:δx= .none:=ox
  exact⟨RB,iP (by rw [hx];rfl) ax,rfl⟩
 | _ + 1,0,_=>
  rw [hy] at oy
  obtain rfl:δy= .none:=oy
  exact⟨iP (by rw [hy];rfl) RB,ax,rfl⟩
 | 1,1,_=>
  rw [hx] at ox
  rw [hy] at oy
  refine⟨iP (by rw [hy];rfl) RB,iP (by rw [hx];rfl) ax,?_⟩
  rcases ox with rfl | ⟨b,rfl⟩
  ·rfl
  ·rcases oy with rfl | ⟨b',rfl⟩
   ·rfl
   ·exact yU Oj
 | 2,1,_=>
  rw [hx] at ox
  rw [hy] at oy
  refine⟨iP (by rw [hy];rfl) RB,?_,?_⟩
  ·rcases oy with rfl | ⟨b',rfl⟩
   ·exact ax
   ·exact lu hx (IN hj _) ax
  ·rcases oy with rfl | ⟨b',rfl⟩
   ·rfl
   ·rcases ox with rfl | ⟨l,rfl,hl⟩
    ·rfl
    ·exact(IP hj hl).symm
 | 2,2,_=>
  rw [hx] at ox
  rw [hy] at oy
  rcases ox with rfl | ⟨l,rfl,hl⟩
  ·rcases oy with rfl | ⟨l',rfl,Bq⟩
   ·exact⟨RB,ax,rfl⟩
   ·exact⟨RB,lu hx (wg _ _) ax,rfl⟩
  ·rcases oy with rfl | ⟨l',rfl,Bq⟩
   ·exact⟨lu hy (wh _ _) RB,ax,rfl⟩
   ·exact⟨lu hy (wh _ _) RB,lu hx (wg _ _) ax,E5 _ _ _⟩
 | 1,_ + 2,h=>cases h
 | 2,_ + 3,h=>cases h
 | _ + 3,_ + 1,h=>cases h
theorem Cx (h:KZ Pg ents G ops o n e (VM.get M) fp r m') (ha:xR (VM.get M2) (VM.get M) fp):(∃M2',KZ Pg ents G ops o n e (VM.get M2) fp r (VM.get M2')∧∀c,VM.get M2 c=VM.get M c→VM.get M2' c=m' c)∧∀c,c ∉ fp→c≠n→m' c=VM.get M c:=by
 obtain⟨b,h1,h2,h3⟩:=h;cases b with
 | true=>
  obtain⟨⟨M2',p1,p2⟩,p3⟩:=K0 (h2 rfl) ha;exact⟨⟨M2',⟨true,h1,fun _=>p1,fun h=>nomatch h⟩,p2⟩,p3⟩
 | false=>
  obtain⟨rfl,rfl⟩:=h3 rfl;exact⟨⟨M2,⟨false,h1,fun h=>(nomatch h),fun _=>⟨rfl,rfl⟩⟩,fun _ hc=>hc⟩,fun _ _ _=>rfl⟩
theorem lA (h:dR Pg T N ents G ops rf o n fp e (VM.get M) e1 m1) (he: ∀t∈o.looksAt ops,e t=e' t) (ha: ∀c,c∈fp∨c=n→VM.get M2 c=VM.get M c) :
  ∃r,e1=mr o.dst r e∧(∃M2',dR Pg T N ents G ops rf o n fp e' (VM.get M2) (mr o.dst r e') (VM.get M2')∧∀c,c∈fp∨c=n→VM.get M2' c=m1 c):=by
 obtain⟨r,hd,rfl,h⟩:=h
 refine⟨r,rfl,?_⟩
 cases rf with
 | false=>
  obtain⟨δ,h1,rfl,rfl⟩:=h
  have hf:=yT h1
  refine⟨δ.app n M2,⟨r,hd,rfl,δ,KY (fun c hc=>ha c (.inl (by rw [qU he];exact hc))) (wc he h1),Dl.get_app _ _ _,(qU he)⟩,fun c hc=>?_⟩
  rw [Dl.get_app]
  exact O8 hf ha hc
 | true=>
  obtain⟨⟨M2',p1,p2⟩,p3⟩:=Cx h (M2:=M2) fun c hc=>ha c (.inl hc)
  exact⟨M2',⟨r,hd,rfl,Pc he p1⟩,fun c hc=>p2 c (ha c hc)⟩
theorem gi (h:dR Pg T N ents G ops rf o n fp e (VM.get M) e1 m1) {c:Nat} (h1:c ∉ fp) (h2:c≠n):m1 c=VM.get M c:=by
 obtain⟨r,hd,rfl,h⟩:=h;cases rf with
 | false=>
  obtain⟨δ,h3,rfl,rfl⟩:=h;exact KW (yT h3) h1 h2
 | true=>exact (Cx h (M2:=M) fun _ _=>rfl).2 c h1 h2
theorem AB (h:dR Pg T N ents G ops rf o n fp e (VM.get M) e1 m1): ∃M',VM.get M'=m1:=by
 obtain⟨r,hd,rfl,h⟩:=h;cases rf with
 | false=>obtain ⟨δ,_,rfl,_⟩:=h;exact⟨δ.app n M,Dl.get_app _ _ _⟩
 | true=>
  obtain⟨b,h1,h2,h3⟩:=h;cases b with
  | false=>exact ⟨M,(h3 rfl).2.symm⟩
  | true=>
   have h:=h2 rfl;unfold yq at h;split at h
   ·split at h
    ·unfold gh rd at h;split at h
     ·obtain⟨vs,_,h⟩:=nB h;split at h
      ·obtain⟨_,M0,_,args,M0',n0,res,M1,n1,_,σ,bs,_,_,_,_,_,_,hm⟩:=h;exact⟨_,hm⟩
      ·exact h.elim
     ·exact h.elim
    ·exact h.elim
   ·exact h.elim
def Pe (a b:List Nat):Bool:=a.all fun x=>b.all fun y=> !a₆ x y
theorem K6 {a b:List Nat} (h:Pe a b=true): ∀c,c∈a→c ∉ b:=by
 intro c ha hb;unfold Pe at h;rw [b₃] at h;have:=h c ha;rw [b₃] at this;simpa using this c hb
theorem E7 (h1:dR Pg T N ents G ops rx x i fx e (VM.get M) e1 m1) (h2:dR Pg T N ents G ops ry y j fy e1 m1 e2 m2) (ha:x.apart ops y=true) (hd:Pe (i :: fx) (j :: fy)=true) :
  ∃e' m',dR Pg T N ents G ops ry y j fy e (VM.get M) e' m'∧dR Pg T N ents G ops rx x i fx e' m' e2 m2:=by
 obtain⟨p1,p2,p3⟩:=Oper.apart_spec ha
 have a0w:=K6 hd
 have cy: ∀{c},(c∈fx∨c=i)→c ∉ fy∧c≠j:=fun {c} hc=>by
  have:=a0w c (by rcases hc with h | h <;> simp [h])
  simp only [b₀,not_or] at this
  exact⟨this.2,this.1⟩
 have cx: ∀{c},(c∈fy∨c=j)→c ∉ fx∧c≠i:=fun {c} hc=>by
  refine⟨fun h=>?_,fun h=>?_⟩
  ·obtain⟨q1,q2⟩:=cy (.inl h)
   exact hc.elim q1 q2
  ·obtain⟨q1,q2⟩:=cy (.inr h)
   exact hc.elim q1 q2
 obtain⟨M1,rfl⟩:=AB h1
 obtain⟨NT,UT,xS,Yb⟩:=h1
 have H7:dR Pg T N ents G ops rx x i fx e (VM.get M) e1 (VM.get M1):=⟨NT,UT,xS,Yb⟩
 subst xS
 obtain⟨SO,rfl,M',q1,q2⟩:=lA (e':=e) (M2:=M) h2 (iZ p1) fun c hc=>(gi H7 (cx hc).1 (cx hc).2).symm
 obtain⟨Oq,Gm,M'',q3,q4⟩:=lA (e':=mr y.dst SO e) (M2:=M') H7 (fun t ht=>(iZ p3 t ht).symm) fun c hc=>gi q1 (cy hc).1 (cy hc).2
 have pJ:=oQ (e:=e) (d:=y.dst) (d':=x.dst) (r:=SO) (r':=NT) fun t h h'=>p2 t h' h
 refine⟨_,_,q1,?_⟩
 have hm:VM.get M''=m2:=by
  funext c
  by_cases c1:c∈fx∨c=i
  ·rw [q4 c c1,gi h2 (cy c1).1 (cy c1).2]
  ·have Ie:c ∉ fx∧c≠i:=⟨fun h=>c1 (.inl h),fun h=>c1 (.inr h)⟩
   rw [gi q3 Ie.1 Ie.2]
   by_cases c2:c∈fy∨c=j
   ·exact q2 c c2
   ·have Zf:c ∉ fy∧c≠j:=⟨fun h=>c2 (.inl h),fun h=>c2 (.inr h)⟩
    rw [gi q1 Zf.1 Zf.2,gi h2 Zf.1 Zf.2,gi H7 Ie.1 Ie.2]
 rw [hm] at q3
 obtain⟨r3,Xj,Vl,U8⟩:=q3
 refine⟨r3,Xj,?_,U8⟩
 rw [pJ]
 rw [← Vl]
 cases X6:x.dst with
 | none=>rfl
 | some d=>
  rw [X6] at Gm
  have:NT=Oq:=by
   have:=congrFun Gm d
   simpa [mr,aR] using this
  rw [this]
theorem oR (hk:sN y=0) (h:dR Pg T N ents G ops false y j fy e m e2 m2):m2=m∧∀m',dR Pg T N ents G ops false y j fy e m' e2 m':=by
 obtain⟨r,hd,rfl,δ,h3,rfl,Z5⟩:=h;have ho:=wb h3;rw [hk] at ho;obtain rfl:δ= .none:=ho;exact⟨rfl,fun m'=>⟨r,hd,rfl, .none,iP (by rw [hk];rfl) h3,rfl,Z5⟩⟩
theorem E8 (h1:dR Pg T N ents G ops rx x i fx e (VM.get M) e1 m1) (h2:dR Pg T N ents G ops false y j fy e1 m1 e2 m2) (ha:x.apart ops y=true) (hk:sN y=0) :
  ∃e' m',dR Pg T N ents G ops false y j fy e (VM.get M) e' m'∧dR Pg T N ents G ops rx x i fx e' m' e2 m2:=by
 obtain⟨p1,p2,p3⟩:=Oper.apart_spec ha
 obtain⟨rfl,hp⟩:=oR hk h2
 obtain⟨NT,UT,xS,Yb⟩:=h1
 have H7:dR Pg T N ents G ops rx x i fx e (VM.get M) e1 m2:=⟨NT,UT,xS,Yb⟩
 subst xS
 obtain⟨SO,rfl,M',q1,_⟩:=lA (e':=e) (M2:=M) (hp (VM.get M)) (iZ p1) fun _ _=>rfl
 obtain⟨XS,_⟩:=oR hk q1
 obtain⟨Oq,Gm,M'',q3,q4⟩:=lA (e':=mr y.dst SO e) (M2:=M) H7 (fun t ht=>(iZ p3 t ht).symm) fun _ _=>rfl
 have pJ:=oQ (e:=e) (d:=y.dst) (d':=x.dst) (r:=SO) (r':=NT) fun t h h'=>p2 t h' h
 have hm:VM.get M''=m2:=by
  funext c
  by_cases c1:c∈fx∨c=i
  ·exact q4 c c1
  ·have Ie:c ∉ fx∧c≠i:=⟨fun h=>c1 (.inl h),fun h=>c1 (.inr h)⟩
   rw [gi q3 Ie.1 Ie.2,gi H7 Ie.1 Ie.2]
 rw [XS] at q1
 refine⟨_,_,q1,?_⟩
 rw [hm] at q3
 obtain⟨r3,Xj,Vl,U8⟩:=q3
 refine⟨r3,Xj,?_,U8⟩
 rw [pJ,← Vl]
 cases X6:x.dst with
 | none=>rfl
 | some d=>
  rw [X6] at Gm
  have:NT=Oq:=by
   have:=congrFun Gm d
   simpa [mr,aR] using this
  rw [this]
theorem E9 (h1:dR Pg T N ents G ops false x i fx e (VM.get M) e1 m1) (h2:dR Pg T N ents G ops ry y j fy e1 m1 e2 m2) (ha:x.apart ops y=true) (hk:sN x=0) :
  ∃e' m',dR Pg T N ents G ops ry y j fy e (VM.get M) e' m'∧dR Pg T N ents G ops false x i fx e' m' e2 m2:=by
 obtain⟨p1,p2,p3⟩:=Oper.apart_spec ha
 obtain⟨rfl,hp⟩:=oR hk h1
 obtain⟨NT,UT,xS,Yb⟩:=h1
 have H7:dR Pg T N ents G ops false x i fx e (VM.get M) e1 (VM.get M):=⟨NT,UT,xS,Yb⟩
 subst xS
 obtain⟨SO,rfl,M',q1,q2⟩:=lA (e':=e) (M2:=M) h2 (iZ p1) fun _ _=>rfl
 obtain⟨Oq,Gm,M'',q3,_⟩:=lA (e':=mr y.dst SO e) (M2:=M) H7 (fun t ht=>(iZ p3 t ht).symm) fun _ _=>rfl
 obtain⟨j0g,q5⟩:=oR hk q3
 have pJ:=oQ (e:=e) (d:=y.dst) (d':=x.dst) (r:=SO) (r':=NT) fun t h h'=>p2 t h' h
 have hm:VM.get M'=m2:=by
  funext c
  by_cases c1:c∈fy∨c=j
  ·exact q2 c c1
  ·have Ie:c ∉ fy∧c≠j:=⟨fun h=>c1 (.inl h),fun h=>c1 (.inr h)⟩
   rw [gi q1 Ie.1 Ie.2,gi h2 Ie.1 Ie.2]
 rw [hm] at q1
 refine⟨_,_,q1,?_⟩
 obtain⟨r3,Xj,Vl,U8⟩:=q5 m2
 refine⟨r3,Xj,?_,U8⟩
 rw [pJ,← Vl]
 cases X6:x.dst with
 | none=>rfl
 | some d=>
  rw [X6] at Gm
  have:NT=Oq:=by
   have:=congrFun Gm d
   simpa [mr,aR] using this
  rw [this]
end
end
section
structure lB (N:Nat) (w0:World) (ex0:Iy) (P0:cB) (e:Nat→Option MV) (m:FM) (F:Nat→Prop) (a:Act) (w:World):Prop where
 ex: ∃P adr,bf w P adr m∧hJ w P adr e a∧(∀c,F c→adr c=none)∧jG w0 ex0 P0 w P adr∧(∀b o,P b o→P0 b o∨w0.heap.size≤b∨ex0.ex b)
 fresh: ∀c,F c→m c=none
 ge: ∀c,F c→ex0.n0≤c
 since:db ex0.ex w0 w
 defers:a.defers= []
 size:a.tmps.size=N
section
variable {Pg:Program} {T:bD} {N:Nat} {ents:List FuncId} {G:GS} {w0 w w':World} {ex0:Iy} {P0 P:cB} {adr:gG} {e e':Nat→Option MV} {m m':FM} {n:Nat} {F F':Nat→Prop} {a:Act} {r:MV} {u:Value} {δ:Dl} {ops:Array Oper} {o:Oper}
theorem qL.toS (h:qL N w0 ex0 P0 e m n a w):lB N w0 ex0 P0 e m (n≤·) a w:=⟨h.ex,h.fresh,fun _ hc=>c₃ h.ge hc,h.since,h.defers,h.size⟩
theorem lB.toSim (h:lB N w0 ex0 P0 e m F a w) (hn: ∀c,n≤c→F c):qL N w0 ex0 P0 e m n a w:=by
 obtain⟨P,adr,h1,h2,h3,h4,h5⟩:=h.ex;exact⟨⟨P,adr,h1,h2,fun c hc=>h3 c (hn c hc),h4,h5⟩,fun c hc=>h.fresh c (hn c hc),h.ge n (hn n (b₂ _)),h.since,h.defers,h.size⟩
theorem Pf (hS:lj Pg T ents G w0 ex0) (h:mq Pg T ents G o e m n r δ) (hI:bf w P adr m) (hn:adr n=none) (hf:m n=none) (hE:hJ w P adr e a) (hs:db ex0.ex w0 w)
  {next:Act→World→Prop} {Q:Exit→Act→World→Prop} (hK: ∀u w',bP w P adr m n r δ u w'→next (a.put o.dst u) w'):o.wp Pg a w next Q:=by
 have plain:(jv Pg T e m n o).runP (fun x=>x=(r,δ))→o.wp Pg a w next Q:=by
  intro h
  obtain⟨r',δ',hk,hr⟩:=KJ hS.seat.tab hI hn hf hE h
  injection hk with xW pV
  subst xW;subst pV
  unfold Oper.wp
  rcases hr with ⟨u,w',h1,h2⟩ | ⟨w',h1,h2⟩
  ·rw [h1];exact hK u w' h2
  ·rw [h1];exact hK undef w' h2
 obtain⟨dst,op,ty,pos,after,guard⟩:=o
 cases op with
 | call c=>
  obtain⟨callee,args,er⟩:=c
  cases callee with
  | builtin b=>exact plain h
  | invoke r n=>exact plain h
  | value f=>
   replace h:(iz e m f args.toList).runP fun x=>ents.contains x.1=true∧aE Pg G x.1 x.2.1 r∧δ= .bump x.2.2∧∀c∈x.2.2,m c.1≠none:=h
   unfold iz at h
   obtain⟨pf,h,Ia⟩:=bO hE h
   obtain⟨ps,h,pG⟩:=jN hE h
   cases pf with
   | fn f0 caps=>
    replace h:=bz.bind_runP.1 h
    generalize hu:a.eval f=uf at Ia
    cases Ia with
    | val cs RG=>
     cases RG with
     | fn parts jD zQ=>
      have fF:=pG.app (dI.of_parts jD zQ)
      obtain⟨l',bs,h,P',h1,h2,h3,h4⟩:=sY h fF hI
      obtain⟨hc,sK,rfl,_⟩:=h
      replace hc:ents.contains f0=true:=hc
      replace sK:aE Pg G f0 l' r:=sK
      have k8:(execOp a.eval ⟨dst, .call ⟨.value f,args,er⟩,ty,pos,after,guard⟩).run Pg w= .ok (.enter f0 (args.toList.map a.eval ++ c₄ valM caps parts).toArray) w:=by
       have he:=hS.seat.enters f0 (by simpa using hc) (args.toList.map a.eval ++ c₄ valM caps parts).toArray w
       rw [← he]
       have Gc:args.map a.eval=(args.toList.map a.eval).toArray:=kM _ _
       simp [execOp,resolve,hu,valM,MV.isAgg,Deferred.ofValue,invoke,Gc]
      unfold Oper.wp
      rw [k8]
      refine(sK w P' _ (hS.good w hs) h1.prot h4).mono ?_
      rintro e w' ⟨v,rfl,h5,h6⟩
      refine hK v w' ⟨jK w w' P',adr,?_,by exact h1.below h6,h2.trans (bJ.below h1.prot h6),fun _ _=>rfl,fun g hg=>(by rw [hn] at hg;cases hg),(db.of_below h6).weak fun _ e=>e.elim,fun b o hb=>?_⟩
      ·exact h5.keep ⟨fun _ _ h=>h,fun _ _ _=>rfl,fun _ _ h=>(nomatch h),fun _ _ _ _ h=>nomatch h⟩
      ·rcases hb with hb | hb
       ·rcases h3 b o hb with hb | hb
        ·exact .inl hb
        ·exact .inr (.inr hb)
       ·exact .inr (.inl hb.1)
   | _=>exact h.elim
 | _=>exact plain h
theorem Fa: ∀{l:List (Nat×Nat)} {m:FM} {c:Nat},m c=none→dH m l c=none:=by
 intro l m c h;rw [bumpF_get,h];rfl
theorem yW {c:Nat} (h:m c=none) (hc:c≠n):δ.appF n m c=none:=by
 cases δ with
 | none=>exact h
 | new b=>show aR _ _ _ c=none;rw [aL _ _ hc];exact h
 | upd c' l=>
  show(match m c' with | some b=>aR m c' { b with l:=l } | none=>m) c=none
  cases hb:m c' with
  | none=>exact h
  | some b=>
   show aR _ c' _ c=none
   rw [aL]
   ·exact h
   ·rintro rfl;rw [h] at hb;cases hb
 | mv c' b=>
  show aR _ _ _ c=none
  rw [aL _ _ hc];unfold jJ;split
  ·rfl
  ·exact h
 | bump l=>exact Fa h
theorem lB.post (hs:lB N w0 ex0 P0 e m F a w) (_hI:bf w P adr m) (hE:hJ w P adr e a) (hn: ∀c,F c→adr c=none) (hg:jG w0 ex0 P0 w P adr) (hp: ∀b o,P b o→P0 b o∨w0.heap.size≤b∨ex0.ex b)
  (qz:bP w P adr m n r δ u w') {dst:Option Tmp} (hd: ∀d,dst=some d→d < N) (hFn:F n) (hF: ∀c,F' c→F c∧c≠n):lB N w0 ex0 P0 (mr dst r e) (δ.appF n m) F' (a.put dst u) w':=by
 obtain⟨P',aN,h1,h2,h3,h4,h5,h6,h7⟩:=qz
 have YC:hJ w' P' aN e a:=fun t v ht=>by
  obtain⟨u,e1,e2⟩:=hE t v ht
  exact⟨u,e1,e2.keep h3⟩
 have oJ:=hs.since.size
 have common: ∀{e':Nat→Option MV} {a':Act},hJ w' P' aN e' a'→a'.defers= [] →a'.tmps.size=N→lB N w0 ex0 P0 e' (δ.appF n m) F' a' w':=by
  intro e' a' e1 e2 e3
  refine⟨⟨P',aN,h2,e1,fun c hc=>?_,⟨fun c g hc=>?_,fun c hc=>(h4 c (by have:=hs.ge n hFn;omega)).trans (hg.old c hc),hg.keep.trans h3⟩,fun b o ho=>?_⟩,fun c hc=>?_,fun c hc=>hs.ge c (hF c hc).1,?_,e2,e3⟩
  ·rw [h4 c (hF c hc).2];exact hn c (hF c hc).1
  ·by_cases e:c=n
   ·subst e
    rcases h5 g hc with h | ⟨c',h⟩
    ·exact .inl (c₃ oJ h)
    ·exact hg.in_ c' g h
   ·rw [h4 c e] at hc;exact hg.in_ c g hc
  ·rcases h7 b o ho with h | h | ⟨c',h⟩
   ·exact hp b o h
   ·exact .inr (.inl (c₃ oJ h))
   ·rcases hg.in_ c' b h with h | h
    ·exact .inr (.inl h)
    ·exact .inr (.inr h)
  ·exact yW (hs.fresh c (hF c hc).1) (hF c hc).2
  ·exact⟨h6.os.trans hs.since.os,h6.tape.trans hs.since.tape,h6.output.trans hs.since.output,c₃ oJ h6.size,fun b hb gf=>(h6.block b (Nat.lt_of_lt_of_le hb oJ) (fun⟨c,hc⟩=>by
    rcases hg.in_ c b hc with h | h
    ·omega
    ·exact gf h)).trans (hs.since.block b hb gf)⟩
 cases dst with
 | none=>exact common YC hs.defers hs.size
 | some d=>
  have BH:=hd d rfl
  refine common ?_ hs.defers (by simp [Act.put,hs.size])
  intro t v ht
  simp only [Act.put,Array.getElem?_setIfInBounds]
  replace ht:aR e d r t=some v:=ht
  unfold aR at ht
  split at ht
  ·rename_i e
   subst e
   injection ht with ht
   subst ht
   exact⟨u,by simp [hs.size,BH],h1⟩
  ·rename_i gf
   rw [if_neg fun h=>gf h.symm]
   exact YC t v ht
theorem lB.put (hd:a.defers= []) (hz:a.tmps.size=N) {w':World} {P':cB} {aN:gG} (hI:bf w' P' aN m') (hE:hJ w' P' aN e a) (hr:aM w' P' aN r u) (h1: ∀c,F' c→aN c=none) (h2:jG w0 ex0 P0 w' P' aN)
  (h3: ∀b o,P' b o→P0 b o∨w0.heap.size≤b∨ex0.ex b) (h4: ∀c,F' c→m' c=none) (h5: ∀c,F' c→ex0.n0≤c) (h6:db ex0.ex w0 w') {dst:Option Tmp} (BF: ∀d,dst=some d→d < N):lB N w0 ex0 P0 (mr dst r e) m' F' (a.put dst u) w':=by
 cases dst with
 | none=>exact ⟨⟨P',aN,hI,hE,h1,h2,h3⟩,h4,h5,h6,hd,hz⟩
 | some d=>
  have BH:=BF d rfl
  refine⟨⟨P',aN,hI,fun t v ht=>?_,h1,h2,h3⟩,h4,h5,h6,hd,by simp [Act.put,hz]⟩
  simp only [Act.put,Array.getElem?_setIfInBounds]
  replace ht:aR e d r t=some v:=ht
  unfold aR at ht
  split at ht
  ·rename_i e
   subst e
   injection ht with ht
   subst ht
   exact⟨u,by simp [hz,BH],hr⟩
  ·rename_i gf
   rw [if_neg fun h=>gf h.symm]
   exact hE t v ht
theorem IS (hS:lj Pg T ents G w0 ex0) {rf:Bool} {fp:List Nat} {next:Act→World→Prop} {Q:Exit→Act→World→Prop} (hs:lB N w0 ex0 P0 e m F a w) (hn:F n) (hF: ∀c,F' c→F c∧c≠n)
  (h:dR Pg T N ents G ops rf o n fp e m e' m') (hk: ∀a w,lB N w0 ex0 P0 e' m' F' a w→next a w) :
  if Region.wanted o (yielded ops a.tmps) then o.wp Pg a w next Q∨(o.asks Pg a w∧LetsOut Q) else next (a.put o.dst undef) w:=by
 obtain⟨r,hd,rfl,h⟩:=h
 obtain⟨P,adr,hI,hE,qA,jF,sL⟩:=hs.ex
 have wanted: ∀{b},EZ ops o e=some b→Region.wanted o (yielded ops a.tmps)=b:=by
  intro b hb
  unfold EZ at hb
  split at hb
  ·rename_i hg
   injection hb with hb
   simp [Region.wanted,hg,← hb]
  ·rename_i j want hg
   split at hb
   ·cases hb
   ·rename_i s hj
    split at hb
    ·rename_i t ht
     injection hb with hb
     obtain⟨v,J4,J6⟩:=hE s _ ht
     have hv:=J6.bool_
     subst hv
     have hy:yielded ops a.tmps j=some t:=by simp [yielded,hj,J4]
     simp only [Region.wanted,hg,hy,← hb]
     cases t <;> cases want <;> rfl
    ·rename_i ht
     injection hb with hb
     obtain⟨v,J4,J6⟩:=hE s _ ht
     have hv:v=undef:=J6.undef_
     subst hv
     have hy:yielded ops a.tmps j=none:=by simp [yielded,hj,J4,undef]
     simp [Region.wanted,hg,hy,← hb]
    ·cases hb
 cases rf with
 | false=>
  obtain⟨δ,⟨b,hb,h1,h2⟩,rfl,_⟩:=h
  rw [wanted hb]
  cases b with
  | true=>
   rw [if_pos rfl]
   refine .inl (Pf hS (h1 rfl) hI (qA n hn) (hs.fresh n hn) hE hs.since fun u w' hp=>hk _ _ ?_)
   exact hs.post hI hE qA jF sL hp hd hn hF
  | false=>
   rw [if_neg sm]
   obtain⟨rfl,rfl⟩:=h2 rfl
   exact hk _ _ (hs.post (δ:= .none) hI hE qA jF sL (bP.pure hI (qA n hn) .undef) hd hn hF)
 | true=>
  obtain⟨b,hb,h1,h2⟩:=h
  rw [wanted hb]
  cases b with
  | false=>
   rw [if_neg sm]
   obtain⟨rfl,rfl⟩:=h2 rfl
   exact hk _ _ (hs.post (δ:= .none) hI hE qA jF sL (bP.pure hI (qA n hn) .undef) hd hn hF)
  | true=>
   rw [if_pos rfl]
   have h:=h1 rfl
   obtain⟨dst,op,ty,pos,after,guard⟩:=o
   unfold yq at h
   cases op with
   | call c=>
    obtain⟨callee,args,er⟩:=c
    cases callee with
    | value f=>
     replace h:(gh e f args.toList).runP fun x=>ents.contains x.1=true∧∃M,VM.get M=m∧nz Pg G M n x.1 x.2 fp fun r' M'=>r'=r∧VM.get M'=m':=h
     unfold gh at h
     obtain⟨pf,h,Ia⟩:=bO hE h
     obtain⟨ps,h,pG⟩:=jN hE h
     cases pf with
     | fn f0 caps=>
      generalize hu:a.eval f=uf at Ia
      cases Ia with
      | val cs RG=>
       cases RG with
       | fn parts jD zQ=>
        have fF:=pG.app (dI.of_parts jD zQ)
        replace h:ents.contains f0=true∧∃M,VM.get M=m∧nz Pg G M n f0 (ps ++ caps) fp fun r' M'=>r'=r∧VM.get M'=m':=h
        obtain⟨hc,M,rfl,hz⟩:=h
        have k8:(execOp a.eval ⟨dst, .call ⟨.value f,args,er⟩,ty,pos,after,guard⟩).run Pg w= .ok (.enter f0 (args.toList.map a.eval ++ c₄ valM caps parts).toArray) w:=by
         have he:=hS.seat.enters f0 (by simpa using hc) (args.toList.map a.eval ++ c₄ valM caps parts).toArray w
         rw [← he]
         have Gc:args.map a.eval=(args.toList.map a.eval).toArray:=kM _ _
         simp [execOp,resolve,hu,valM,MV.isAgg,Deferred.ofValue,invoke,Gc]
        refine .inl ?_
        unfold Oper.wp
        rw [k8]
        refine(IB hS hz hs.since (hs.fresh n hn) (hs.ge n hn) (qA n hn) hI hE jF sL fF).mono ?_
        rintro e w' ⟨v,rfl,r',M',⟨rfl,rfl⟩,P',adr1,q1,q2,q3,q8,q4,q5,q6,q7⟩
        exact hk _ _ (lB.put hs.defers hs.size q1 q2 q3 (fun c hc=>(q8 c (hF c hc).2).trans (qA c (hF c hc).1)) q4 q5 (fun c hc=>q6 c (hF c hc).2 (hs.fresh c (hF c hc).1)) (fun c hc=>hs.ge c (hF c hc).1) q7 hd)
     | _=>exact h.elim
    | _=>exact h.elim
   | _=>exact h.elim
end
end
section
section
variable (Pg:Program) (T:bD) (N:Nat) (ents:List FuncId) (G:GS)
structure AD where
 k:Nat
 n:Nat
 rf:Bool
 fp:List Nat
def K7 (ops:Array Oper):List AD→(Nat→Option MV)→FM→(Nat→Option MV)→FM→Prop
 | [],e,m,e',m'=>e=e'∧m=m'
 | x :: L,e,m,e',m'=> ∃o e1 m1,ops[x.k]? =some o∧dR Pg T N ents G ops x.rf o x.n x.fp e m e1 m1∧K7 ops L e1 m1 e' m'
end
def K8 (x y:AD) (a b:Oper):Bool:=(!x.rf && !y.rf && okC (sN a) (sN b)) || (Pe (x.n :: x.fp) (y.n :: y.fp) || (!y.rf && a₆ (sN b) 0 || !x.rf && a₆ (sN a) 0))
def VV (ops:Array Oper) (x y:AD):Bool:=match ops[x.k]?,ops[y.k]? with
 | some a,some b=>((a.apart ops b && K8 x y a b) || vN ops 8 y.k x.k) && a.after.toList.all (fun e=> !Region.binds .any e || !a₆ e.on y.k) && !a₆ x.k y.k
 | _,_=>false
def VW (ops:Array Oper) (x:Nat):Bool:=match ops[x]? with
 | some a=>a.after.toList.all fun e=> !Region.binds .any e || (a₄ e.on ops.size && !a₆ e.on x)
 | none=>false
def Ph (ops:Array Oper):List AD→Bool
 | [] =>true
 | x :: L=>VW ops x.k && L.all (fun y=>VV ops x y) && Ph ops L
def iA (ops:Array Oper) (L:List AD):Bool:=Ph ops L && (b₇ ops.size).all (fun k=>(L.map (·.k)).contains k) && d₁ L.length ops.size
theorem yX {ops:Array Oper}: ∀{L:List AD},Ph ops L=true→L.Pairwise (fun x y=>VV ops x y=true)∧∀x∈L,VW ops x.k=true
 | [],_=>⟨.nil,fun _ h=>nomatch h⟩
 | x :: L,h=>by
  simp only [Ph,a₀,b₃] at h
  obtain⟨h1,h2⟩:=yX h.2
  refine⟨.cons h.1.2 h1,fun y hy=>?_⟩
  rcases b₀.1 hy with rfl | hy
  ·exact h.1.1
  ·exact h2 y hy
section
variable {Pg:Program} {T:bD} {N:Nat} {ents:List FuncId} {G:GS} {ops:Array Oper} {e e':Nat→Option MV} {m m':FM} {listed:Array Bool}
theorem IT {x y:AD} {a b:Oper} {e1 e2:Nat→Option MV} {m1 m2:FM} (hm: ∃M,VM.get M=m) (h1:dR Pg T N ents G ops x.rf a x.n x.fp e m e1 m1) (h2:dR Pg T N ents G ops y.rf b y.n y.fp e1 m1 e2 m2) (ha:a.apart ops b=true) (hc:K8 x y a b=true) (Oj:x.n≠y.n) (hi:m x.n=none) (hj:m y.n=none) :
  ∃e' m',dR Pg T N ents G ops y.rf b y.n y.fp e m e' m'∧dR Pg T N ents G ops x.rf a x.n x.fp e' m' e2 m2:=by
 obtain⟨M,rfl⟩:=hm
 unfold K8 at hc
 rw [c₆] at hc
 rcases hc with hc | hc
 ·simp only [a₀,b₁] at hc
  obtain⟨⟨q1,q2⟩,q3⟩:=hc
  rw [q1] at h1 ⊢
  rw [q2] at h2 ⊢
  exact E6 h1 h2 ha q3 Oj hi hj
 ·rw [c₆] at hc
  rcases hc with hc | hc
  ·exact E7 h1 h2 ha hc
  ·rw [c₆] at hc
   rcases hc with hc | hc
   ·simp only [a₀,b₁] at hc
    obtain⟨q1,q2⟩:=hc
    rw [q1] at h2 ⊢
    exact E8 h1 h2 ha (c₂ q2)
   ·simp only [a₀,b₁] at hc
    obtain⟨q1,q2⟩:=hc
    rw [q1] at h1 ⊢
    exact E9 h1 h2 ha (c₂ q2)
theorem wi {o:Oper} {rf:Bool} {fp:List Nat} {n c:Nat} (Yt: ∃M,VM.get M=m) (h:dR Pg T N ents G ops rf o n fp e m e' m') (hm:m c=none) (hc:c≠n):m' c=none:=by
 obtain⟨r,_,_,h⟩:=h;cases rf with
 | false=>obtain ⟨δ,_,rfl,_⟩:=h;exact yW hm hc
 | true=>
  obtain⟨M0,rfl⟩:=Yt;obtain⟨b,h1,h2,h3⟩:=h;cases b with
  | false=>rw [(h3 rfl).2];exact hm
  | true=>
   have h:=h2 rfl;unfold yq at h;split at h
   ·split at h
    ·unfold gh rd at h;split at h
     ·obtain⟨vs,_,h⟩:=nB h;split at h
      ·obtain⟨_,M,hM,args,M0',n0,res,M1,n1,_,σ,bs,hL,xJ,hk,_,_,_,hm'⟩:=h;rw [← hm',get_app,AA fun z hz=>?_]
       ·cases hx:VM.get (jw (VM.bump M bs) σ) c with
        | none=>rfl
        | some b=>
         obtain⟨h4,_⟩:=nA σ _ c b hx;obtain⟨b',h5⟩:=qQ h4;rw [hM,hm] at h5;cases h5
       ·unfold kC;cases hd:oP σ z.1 with
        | none=>exact fun h=>hc h.symm
        | some d=>
        rintro rfl;obtain⟨b',px⟩:=iO xJ z.1 d (gx hd);rw [hM,hm] at px;cases px
      ·exact h.elim
     ·exact h.elim
    ·exact h.elim
   ·exact h.elim
theorem wj: ∀{L1:List AD} {L2:List AD} {k:AD} {e:Nat→Option MV} {m:FM},(∃M,VM.get M=m)→K7 Pg T N ents G ops (L1 ++ k :: L2) e m e' m'→
  (∀x∈L1,∃a b,ops[x.k]? =some a∧ops[k.k]? =some b∧a.apart ops b=true∧K8 x k a b=true)→(∀x∈L1,x.n≠k.n∧m x.n=none)→m k.n=none→(L1.map (·.n)).Nodup→
  ∃o e1 m1,ops[k.k]? =some o∧dR Pg T N ents G ops k.rf o k.n k.fp e m e1 m1∧K7 Pg T N ents G ops (L1 ++ L2) e1 m1 e' m'
 | [],_,_,_,_,_,h,_,_,_,_=>h
 | x :: L1,L2,k,e,m,hv,h,hc,hn,hk,hd=>by
  obtain⟨o,e1,m1,h1,h2,h3⟩:=h
  obtain⟨BB,yF⟩:=hn x sm
  obtain⟨hd1,hd2⟩:=d₄.1 hd
  have J4: ∃M,VM.get M=m1:=by obtain⟨M,rfl⟩:=hv;exact AB h2
  obtain⟨o',e2,m2,h4,h5,h6⟩:=wj J4 h3 (fun y hy=>hc y (by simp [hy])) (fun y hy=>⟨(hn y (by simp [hy])).1,wi hv h2 (hn y (by simp [hy])).2 fun h=>hd1 (a₈.2 ⟨y,hy,h⟩)⟩) (wi hv h2 hk BB.symm) hd2
  obtain⟨a,b,p1,p2,p3,p4⟩:=hc x sm
  rw [h1] at p1;injection p1 with p1;subst p1
  rw [h4] at p2;injection p2 with p2;subst p2
  obtain⟨e3,m3,q1,q2⟩:=IT hv h2 h5 p3 p4 BB yF hk
  exact⟨o',e3,m3,h4,q1,o,e2,m2,h1,q2,h6⟩
def GV (ops:Array Oper) (listed:Array Bool):Prop:= ∀k o,ops[k]? =some o→listed.getD k false=true→∀e∈o.after.toList,Region.binds .any e=true→listed.getD e.on false=true
theorem uk (hc:GV ops listed) {x:Nat} (hx:listed.getD x false=false): ∀(f y:Nat) (o:Oper),ops[y]? =some o→(∀e∈o.after.toList,Region.binds .any e=true→listed.getD e.on false=true)→vN ops f y x=false
 | 0,_,_,_,_=>rfl
 | f + 1,y,o,h1,h2=>by
  unfold vN
  rw [h1]
  show(o.after.toList.any _)=false
  rw [List.any_eq_false]
  intro e he
  cases hb:Region.binds .any e with
  | false=>simp
  | true=>
   have hl:=h2 e he hb
   have gf:a₆ e.on x=false:=by
    cases hh:a₆ e.on x with
    | false=>rfl
    | true=>rw [c₂ hh,hx] at hl;cases hl
   cases ho:ops[e.on]? with
   | none=>
    have:vN ops f e.on x=false:=by
     cases f with
     | zero=>rfl
     | succ f=>unfold vN;rw [ho]
    simp [gf,this]
   | some o'=>
    have:=uk hc hx f e.on o' ho (hc _ _ ho hl)
    simp [gf,this]
theorem Cy {l:Array Bool} {i k:Nat} {d:Bool} (hi:i < l.size):(l.setIfInBounds i true).getD k d=if i=k then true else l.getD k d:=by
 by_cases h:i=k
 ·subst h;simp [Array.getD,hi]
 ·simp [Array.getD_eq_getD_getElem?,h]
theorem yY {i:Nat} (h:i∈Region.ready .any ops listed):listed.getD i true=false∧∃o,ops[i]? =some o∧∀e∈o.after.toList,Region.binds .any e=true→listed.getD e.on false=true:=by
 simp only [Region.ready,f₅,c₀,a₀,b₁] at h;obtain⟨h1,h2,h3⟩:=h;have ho:ops[i]? =some ops[i] :=by simp [h1]
 refine⟨h2,ops[i],ho,fun e he hb=>?_⟩;rw [ho] at h3;simp only [f₆,f₁,Array.all_eq_true'] at h3;have:=h3 e (by simpa using he);simpa [hb] using this
theorem K9 {i:Nat} {o:Oper} (h1:listed.getD i true=false) (h2:ops[i]? =some o) (h3: ∀e∈o.after.toList,Region.binds .any e=true→listed.getD e.on false=true):i∈Region.ready .any ops listed:=by
 simp only [Region.ready,f₅,c₀,a₀,b₁];refine⟨(Array.getElem?_eq_some_iff.1 h2).1,h1,?_⟩;rw [h2];simp only [f₆,f₁,Array.all_eq_true'];intro e he;cases hb:Region.binds .any e with
 | false=>rfl
 | true=>simp [h3 e (by simpa using he) hb]
end
end
section
section
variable {Pg:Program} {T:bD} {N:Nat} {ents:List FuncId} {G:GS} {ops:Array Oper} {e':Nat→Option MV} {m':FM} {w0:World} {ex0:Iy} {P0:cB} {Q:Exit→Act→World→Prop} {Z:Nat→Prop}
theorem uX {x y:AD} (h:VV ops x y=true): ∃a b,ops[x.k]? =some a∧ops[y.k]? =some b∧((a.apart ops b=true∧K8 x y a b=true)∨vN ops 8 y.k x.k=true)∧(∀e∈a.after.toList,Region.binds .any e=true→e.on≠y.k)∧x.k≠y.k:=by
 unfold VV at h;split at h
 ·rename_i a b ha hb;simp only [a₀,c₆,b₃,b₁] at h;obtain⟨⟨h1,h2⟩,h3⟩:=h;refine⟨a,b,ha,hb,h1,fun e he Xl hh=>?_,fun hh=>?_⟩
  ·rcases h2 e he with h | h
   ·rw [Xl] at h;cases h
   ·rw [hh] at h;simp at h
  ·rw [hh] at h3;simp at h3
 ·cases h
theorem GW {x:Nat} (h:VW ops x=true): ∃a,ops[x]? =some a∧∀e∈a.after.toList,Region.binds .any e=true→e.on < ops.size∧e.on≠x:=by
 unfold VW at h;split at h
 ·rename_i a ha;simp only [b₃,c₆,a₀,b₁] at h;refine⟨a,ha,fun e he hb=>?_⟩;rcases h e he with h | ⟨h1,h2⟩
  ·rw [hb] at h;cases h
  ·refine⟨by simpa [d₈] using h1,fun hh=>?_⟩;subst hh;simp at h2
 ·cases h
theorem Cz {l:Array Bool} {k:Nat} {d d':Bool} (h:k < l.size):l.getD k d=l.getD k d':=by simp [Array.getD,h]
theorem Tj (hS:lj Pg T ents G w0 ex0) (hQ: ∀a w,lB N w0 ex0 P0 e' m' Z a w→Q .normal a w): ∀(fuel:Nat) (L:List AD) {listed:Array Bool} {e:Nat→Option MV} {m:FM} {a:Act} {w:World},
  (∃M,VM.get M=m)→K7 Pg T N ents G ops L e m e' m'→L.Pairwise (fun x y=>VV ops x y=true)→(∀x∈L,VW ops x.k=true)→(L.map (·.n)).Nodup→(∀x∈L,¬ Z x.n)→
  lB N w0 ex0 P0 e m (fun c=>c∈L.map (·.n)∨Z c) a w→(∀k,k < ops.size→(listed.getD k true=false↔k∈L.map (·.k)))→listed.size=ops.size→GV ops listed→L.length≤fuel→wpAny Pg .any ops Q fuel listed a w:=by
 intro fuel
 induction fuel with
 | zero=>
  intro L listed e m a w hv hr hP hA hD hZ hs hl gM hc hlen
  obtain rfl:L= [] :=List.length_eq_zero_iff.1 om
  obtain⟨rfl,rfl⟩:=hr
  refine wpAny_done (List.eq_nil_iff_forall_not_mem.2 fun i hi=>?_) (hQ a w (by simpa using hs)) 0
  obtain⟨h1,o,h2,_⟩:=yY hi
  exact absurd ((hl i (Array.getElem?_eq_some_iff.1 h2).1).1 h1) sm
 | succ fuel ih=>
  intro L listed e m a w hv hr hP hA hD hZ hs hl gM hc hlen
  have Yg: ∀x∈L,listed.getD x.k true=false∧listed.getD x.k false=false:=by
   intro x hx
   obtain⟨o,ho,_⟩:=GW (hA x hx)
   have eS:=(Array.getElem?_eq_some_iff.1 ho).1
   have h1:=(hl x.k eS).2 (a₉ hx)
   exact⟨h1,by rw [Cz (d':=true) om];exact h1⟩
  refine⟨fun h0=>?_,fun i hi=>?_⟩
  ·cases L with
   | nil=>
    obtain⟨rfl,rfl⟩:=hr
    exact hQ a w (by simpa using hs)
   | cons x L=>
    exfalso
    obtain⟨o,ho,h2⟩:=GW (hA x sm)
    have:x.k∈Region.ready .any ops listed:=K9 (Yg x sm).1 ho fun ed he hb=>by
     obtain⟨h3,h4⟩:=h2 ed he hb
     rw [Cz (d':=true) om]
     cases hh:listed.getD ed.on true with
     | true=>rfl
     | false=>
      exfalso
      have:=(hl ed.on h3).1 hh
      simp only [b₅,b₀] at this
      rcases this with h5 | h5
      ·exact h4 h5
      ·obtain⟨y,hy,hyk⟩:=a₈.1 h5
       obtain⟨a',b',p1,p2,p3,p4,p5⟩:=uX ((e₃.1 hP).1 y hy)
       rw [ho] at p1
       injection p1 with p1
       subst p1
       exact p4 ed he hb hyk.symm
    rw [h0] at this
    cases this
  ·obtain⟨h1,o,ho,N9⟩:=yY hi
   have eS:=(Array.getElem?_eq_some_iff.1 ho).1
   have uP:=(hl i eS).1 h1
   obtain⟨k,hk,rfl⟩:=a₈.1 uP
   obtain⟨L1,L2,rfl⟩:=List.append_of_mem hk
   simp only [d₅,b₅] at hD
   have YD:=d₉.1 hP
   have RY:=e₇.1 hD
   have Y8:=d₄.1 RY.2.1
   have hP2:=e₃.1 YD.2.1
   have XN: ∀x∈L1,x.n≠k.n:=fun x hx=>RY.2.2 _ (a₉ hx) _ sm
   have c0s: ∀x∈L2,x.n≠k.n:=fun x hx hh=>Y8.1 (hh▸a₉ (f:=(·.n)) hx)
   obtain⟨o',e1,m1,p1,p2,p3⟩:=wj hv hr (fun x hx=>by
     obtain⟨a',b',q1,q2,q3,_⟩:=uX (YD.2.2 x hx k sm)
     refine⟨a',b',q1,q2,?_⟩
     rcases q3 with q3 | q3
     ·exact q3
     ·rw [uk hc (Yg x (by simp [hx])).2 8 k.k o ho N9] at q3;cases q3)
    (fun x hx=>⟨XN x hx,hs.fresh _ (.inl (a₉ (by simp [hx])))⟩) (hs.fresh _ (.inl (a₉ sm))) RY.1
   rw [ho] at p1
   injection p1 with p1
   subst p1
   have J4: ∃M,VM.get M=m1:=by obtain⟨M,rfl⟩:=hv;exact AB p2
   unfold wpOp
   rw [ho]
   refine IS (F':=fun c=>c∈(L1 ++ L2).map (·.n)∨Z c) hS hs (.inl (a₉ sm)) (fun c uE=>?_) p2 fun a' w' lV=>?_
   ·rcases uE with uE | uE
    ·obtain⟨x,hx,rfl⟩:=a₈.1 uE
     rcases c₁.1 hx with hx | hx
     ·exact⟨.inl (a₉ (by simp [hx])),XN x hx⟩
     ·exact⟨.inl (a₉ (by simp [hx])),c0s x hx⟩
    ·exact⟨.inr uE,fun hh=>hZ k hk (hh▸uE)⟩
   ·have hnk: ∀j,j∈(L1 ++ L2).map (·.k)→k.k≠j:=by
     intro j hj
     obtain⟨y,hy,rfl⟩:=a₈.1 hj
     rcases c₁.1 hy with hy | hy
     ·obtain⟨_,_,_,_,_,_,q⟩:=uX (YD.2.2 y hy k sm);exact fun h=>q h.symm
     ·obtain⟨_,_,_,_,_,_,q⟩:=uX (hP2.1 y hy);exact q
    refine ih (L1 ++ L2) J4 p3 ?_ (fun x hx=>hA x ?_) ?_ (fun x hx=>hZ x ?_) lV (fun j hj=>?_) (by simpa using gM) ?_ ?_
    ·exact d₉.2 ⟨YD.1,hP2.2,fun x hx y hy=>YD.2.2 x hx y (by simp only [b₀];exact .inr hy)⟩
    ·rcases c₁.1 hx with hx | hx <;> simp [hx]
    ·rw [d₅]
     exact e₇.2 ⟨RY.1,Y8.2,fun x hx y hy=>RY.2.2 x hx y (by simp only [b₀];exact .inr hy)⟩
    ·rcases c₁.1 hx with hx | hx <;> simp [hx]
    ·rw [Cy om]
     by_cases VQ:k.k=j
     ·rw [if_pos VQ]
      exact⟨fun h=>(by cases h),fun h=>absurd VQ (hnk j h)⟩
     ·rw [if_neg VQ,hl j hj]
      simp only [d₅,b₅,c₁,b₀]
      constructor
      ·rintro(h | h | h)
       ·exact .inl h
       ·exact absurd h.symm VQ
       ·exact .inr h
      ·rintro(h | h)
       ·exact .inl h
       ·exact .inr (.inr h)
    ·intro j oj hj xX ed he hb
     rw [Cy om] at xX ⊢
     split
     ·rfl
     ·split at xX
      ·rename_i VQ
       subst VQ
       rw [ho] at hj
       injection hj with hj
       subst hj
       exact N9 ed he hb
      ·exact hc j oj hj xX ed he hb
    ·simp only [a₇,b₆] at hlen ⊢
     omega
end
end
section
section
variable {Pg:Program} {T:bD} {N:Nat} {ents:List FuncId} {G:GS} {ops:Array Oper} {E:VE} {M:VM} {n:Nat} {o:Oper}
theorem Fb {e:Nat→Option MV} {m:FM} {f:Operand} {args:List Operand} {K:FuncId×List MV×List (Nat×Nat)→Prop} (h:(iz e m f args).runP K):(iz e m f args).runP fun x=>K x∧∀c∈x.2.2,m c.1≠none:=by
 unfold iz at h ⊢;unfold rd at h ⊢;split at h
 ·have key: ∀(az:List Operand) (k:List MV→bz (FuncId×List MV×List (Nat×Nat))) (K K':FuncId×List MV×List (Nat×Nat)→Prop),(∀vs,(k vs).runP K→(k vs).runP K')→(oM e az k).runP K→(oM e az k).runP K':=by
   intro az
   induction az with
   | nil=>intro k K K' hk h;exact hk _ h
   | cons x az ih=>
    intro k K K' hk h;unfold oM rd at h ⊢;split at h
    ·exact ih _ K K' (fun vs h=>hk _ h) h
    ·exact h.elim
  refine key _ _ _ _ (fun vs hk=>?_) h;split at hk
  ·exact dV (lr (fX.refl m) (bz.bind_runP.1 hk)) fun x hx=>⟨hx.1,hx.2⟩
  ·exact hk.elim
 ·exact h.elim
theorem CA {E2:VE} {K:MV→VM→Prop} (h:yh Pg T ents G o E2 M n K): ∃r δ,mq Pg T ents G o (VE.get E2) (VM.get M) n r δ∧K r (δ.app n M):=by
 have plain:(jv Pg T (VE.get E2) (VM.get M) n o).runP (fun x=>K x.1 (x.2.app n M))→∃r δ,(jv Pg T (VE.get E2) (VM.get M) n o).runP (fun x=>x=(r,δ))∧K r (δ.app n M):=by
  intro h;obtain⟨⟨r,δ⟩,h1,h2,_⟩:=IE Pg T (VE.get E2) (VM.get M) n o _ h;exact⟨r,δ,h1,h2⟩
 obtain⟨dst,op,ty,pos,after,guard⟩:=o;cases op with
 | call c=>
  obtain⟨callee,args,er⟩:=c;cases callee with
  | value f=>
   replace h:(iz (VE.get E2) (VM.get M) f args.toList).runP fun x=>match ents.contains x.1 with | true=> ∃res,aE Pg G x.1 x.2.1 res∧K res (VM.bump M x.2.2) | false=>False:=h
   obtain⟨x,h1,⟨h2,h3⟩,h4⟩:=Cf E2 M f args.toList _ (Fb h);split at h2
   ·rename_i hc;obtain⟨res,sK,hk⟩:=h2;exact⟨res, .bump x.2.2,h4 _ ⟨hc,sK,rfl,h3⟩,hk⟩
   ·exact h2.elim
  | _=>exact plain h
 | _=>exact plain h
theorem CB {dst:Option Tmp} {r:MV} {K:VE→Prop} (h:eY N dst r E K): ∃E1,K E1∧(∀d,dst=some d→d < N)∧VE.get E1=mr dst r (VE.get E):=by
 unfold eY at h;split at h
 ·exact⟨E,h,fun d hd=>(nomatch hd),rfl⟩
 ·rename_i d;split at h
  ·rename_i hd;refine⟨_,h,fun d' BH=>?_,?_⟩
   ·injection BH with BH;subst BH;simpa [d₈] using hd
   ·funext t;rw [VE.get_cons]
    show _=aR _ d r t
    unfold aR;by_cases ht:d=t
    ·subst ht;simp
    ·rw [if_neg ht,if_neg fun h=>ht h.symm]
  ·exact h.elim
theorem CC {s:Nat} {v:MV} (h:VE.get E s=some v):VE.get ((s,v) :: E)=VE.get E:=by
 funext t;rw [VE.get_cons];split
 ·rename_i hh;subst hh;exact h.symm
 ·rfl
section
variable (Pg:Program) (T:bD) (N:Nat) (ents:List FuncId) (G:GS)
def qV (rf:Bool) (o:Oper) (E:VE) (M:VM) (n:Nat) (K:MV→VM→List Nat→Prop):Prop:=match rf with
 | false=>yh Pg T ents G o E M n fun r M'=>K r M' (numsO (VE.get E) o.op.operands.toList)
 | true=>match o.op with
  | .call c=>match c.callee with
   | .value f=>(eI E f c.args.toList).runP fun x=>match ents.contains x.1 with
    | true=> ∃fp,nz Pg G M n x.1 x.2 fp fun r M'=>K r M' fp
    | false=>False
   | _=>False
  | _=>False
def uJ (ops:Array Oper) (rf:Bool) (o:Oper) (K:List Nat→VE→VM→Prop) (E:VE) (M:VM) (n:Nat):Prop:=match o.guard with
 | none=>qV Pg T ents G rf o E M n fun r M fp=>eY N o.dst r E fun E=>K fp E M
 | some (j,want)=>match (ops[j]?).bind (·.dst) with
  | none=>False
  | some s=>match VE.get E s with
   | some (.bool t)=>
    (t=want→qV Pg T ents G rf o ((s, .bool want) :: E) M n fun r M fp=>eY N o.dst r ((s, .bool want) :: E) fun E=>K fp E M)∧
    (t= !want→eY N o.dst .undef ((s, .bool (!want)) :: E) fun E'=>K (bif rf then [] else numsO (VE.get E) o.op.operands.toList) E' M)
   | some .undef=>eY N o.dst .undef E fun E'=>K (bif rf then [] else numsO (VE.get E) o.op.operands.toList) E' M
   | _=>False
def aD (ops:Array Oper):List (Nat×Bool)→List AD→VK→VE→VM→Nat→Prop
 | [],A,K=>fun E M n=>iA ops A.reverse=true∧K E M n
 | x :: L,A,K=>fun E M n=>match ops[x.1]? with
  | some o=>uJ Pg T N ents G ops x.2 o (fun fp E M=>aD ops L (⟨x.1,n,x.2,fp⟩ :: A) K E M (n + 1)) E M n
  | none=>False
end
theorem IU {rf:Bool} {E2:VE} {K:MV→VM→List Nat→Prop} {_D:VE} (h:qV Pg T ents G rf o E2 M n K) (hg:EZ ops o (VE.get E2)=some true) (hd: ∀d,o.dst=some d→d < N): ∃r M' fp,K r M' fp∧dR Pg T N ents G ops rf o n fp (VE.get E2) (VM.get M) (mr o.dst r (VE.get E2)) (VM.get M'):=by
 cases rf with
 | false=>
  obtain⟨r,δ,h1,h2⟩:=CA (K:=fun r M'=>K r M' (numsO (VE.get E2) o.op.operands.toList)) h;exact⟨r,δ.app n M,_,h2,r,hd,rfl,δ,⟨true,hg,fun _=>h1,fun h=>nomatch h⟩,Dl.get_app _ _ _,rfl⟩
 | true=>
  have BH:=hd;obtain⟨dst,op,ty,pos,after,guard⟩:=o;unfold qV at h;cases op with
  | call c=>
   obtain⟨callee,args,er⟩:=c;cases callee with
   | value f=>
    replace h:(gh (VE.get E2) f args.toList).runP fun x=>match ents.contains x.1 with | true=> ∃fp,nz Pg G M n x.1 x.2 fp fun r M'=>K r M' fp | false=>False:=h
    unfold gh at h;obtain⟨x,h1,h2,h3⟩:=(af.rd fun fv=>af.rds fun vs=>by cases fv <;> first | exact af.ret _ | exact af.bad) _ h;split at h2
    ·rename_i hc;obtain⟨fp,bC,M0,n0,res,M1,n1,a1,σ,bs,a2,a3,a4,a5,a6,a7⟩:=h2;refine⟨_,_,fp,a7,_,BH,rfl,true,hg,fun _=>?_,fun h=>nomatch h⟩
     show(gh (VE.get E2) f args.toList).runP _
     unfold gh;exact h3 _ ⟨hc,M,rfl,bC,M0,n0,res,M1,n1,a1,σ,bs,a2,a3,a4,a5,a6,rfl,rfl⟩
    ·exact h2.elim
   | _=>exact h.elim
  | _=>exact h.elim
theorem La {dst:Option Tmp} {r:MV} {K:VE→Prop} (h:eY N dst r E K): ∀d,dst=some d→d < N:=by
 intro d hd;subst hd;unfold eY at h;split at h
 ·rename_i hh;cases hh
 ·rename_i d' hh;injection hh with hh
  subst hh;split at h
  ·rename_i hb;simpa [d₈] using hb
  ·exact h.elim
theorem Fc {rf:Bool} {K:MV→VM→List Nat→Prop} (h:qV Pg T ents G rf o E M n K): ∃r M' fp,K r M' fp:=by
 cases rf with
 | false=>obtain ⟨r,δ,h1,h2⟩:=CA (K:=fun r M'=>K r M' (numsO (VE.get E) o.op.operands.toList)) h;exact⟨_,_,_,h2⟩
 | true=>
  obtain⟨dst,op,ty,pos,after,guard⟩:=o;unfold qV at h;cases op with
  | call c=>
   obtain⟨callee,args,er⟩:=c;cases callee with
   | value f=>
    replace h:(gh (VE.get E) f args.toList).runP fun x=>match ents.contains x.1 with | true=> ∃fp,nz Pg G M n x.1 x.2 fp fun r M'=>K r M' fp | false=>False:=h
    unfold gh at h;obtain⟨x,h1,h2,h3⟩:=(af.rd fun fv=>af.rds fun vs=>by cases fv <;> first | exact af.ret _ | exact af.bad) _ h;split at h2
    ·obtain⟨fp,bC,M0,n0,res,M1,n1,a1,σ,bs,a2,a3,a4,a5,a6,a7⟩:=h2;exact⟨_,_,_,a7⟩
    ·exact h2.elim
   | _=>exact h.elim
  | _=>exact h.elim
theorem Lb {rf:Bool} {K:List Nat→VE→VM→Prop} (h:uJ Pg T N ents G ops rf o K E M n): ∃fp E1 M1,K fp E1 M1∧dR Pg T N ents G ops rf o n fp (VE.get E) (VM.get M) (VE.get E1) (VM.get M1):=by
 have run: ∀{E2:VE},VE.get E2=VE.get E→EZ ops o (VE.get E)=some true→(qV Pg T ents G rf o E2 M n fun r M fp=>eY N o.dst r E2 fun E=>K fp E M)→∃fp E1 M1,K fp E1 M1∧dR Pg T N ents G ops rf o n fp (VE.get E) (VM.get M) (VE.get E1) (VM.get M1):=by
  intro E2 he hg h;have hd: ∀d,o.dst=some d→d < N:=by obtain⟨r,M',fp,h1⟩:=Fc h;exact La h1
  obtain⟨r,M',fp,h1,h2⟩:=IU (_D:=E2) h (by rw [he];exact hg) hd;obtain⟨E1,h3,h4,h5⟩:=CB h1;rw [he] at h2 h5;rw [← h5] at h2;exact⟨fp,E1,M',h3,h2⟩
 have skip: ∀{E2:VE},VE.get E2=VE.get E→EZ ops o (VE.get E)=some false→(eY N o.dst .undef E2 fun E'=>K (bif rf then [] else numsO (VE.get E) o.op.operands.toList) E' M)→∃fp E1 M1,K fp E1 M1∧dR Pg T N ents G ops rf o n fp (VE.get E) (VM.get M) (VE.get E1) (VM.get M1):=by
  intro E2 he hg h;obtain⟨E1,h3,h4,h5⟩:=CB h;rw [he] at h5;cases rf with
  | false=>exact ⟨_,E1,M,h3, .undef,h4,h5, .none,⟨false,hg,fun h=>(nomatch h),fun _=>⟨rfl,rfl⟩⟩,rfl,rfl⟩
  | true=>exact ⟨_,E1,M,h3, .undef,h4,h5,false,hg,fun h=>(nomatch h),fun _=>⟨rfl,rfl⟩⟩
 unfold uJ at h;split at h
 ·rename_i hg;exact run rfl (by simp [EZ,hg]) h
 ·rename_i j want hg;split at h
  ·exact h.elim
  ·rename_i s hj;split at h
   ·rename_i t ht;by_cases hw:t=want
    ·exact run (CC (by rw [ht,hw])) (by simp [EZ,hg,hj,ht,hw]) (h.1 hw)
    ·have UX:t= !want:=by cases t <;> cases want <;> simp_all
     exact skip (CC (by rw [ht,UX])) (by simp [EZ,hg,hj,ht,hw]) (h.2 UX)
   ·rename_i ht;exact skip rfl (by simp [EZ,hg,hj,ht]) h
   ·exact h.elim
def ZB (n n':Nat) (L:List AD):Prop:=(L.map (·.n)).Nodup∧∀x∈L,n≤x.n∧x.n < n'
theorem yZ: ∀{L:List (Nat×Bool)} {A:List AD} {K:VK} {E:VE} {M:VM} {n:Nat},aD Pg T N ents G ops L A K E M n→
  ∃D E1 M1,iA ops (A.reverse ++ D)=true∧D.length=L.length∧ZB n (n + L.length) D∧K E1 M1 (n + L.length)∧K7 Pg T N ents G ops D (VE.get E) (VM.get M) (VE.get E1) (VM.get M1)
 | [],A,K,E,M,n,h=>⟨[],E,M,by simpa using h.1,rfl,⟨List.nodup_nil,fun _ h=>nomatch h⟩,h.2,rfl,rfl⟩
 | x :: L,A,K,E,M,n,h=>by
  unfold aD at h
  split at h
  ·rename_i o ho
   obtain⟨fp,E1,M1,h1,h2⟩:=Lb h
   obtain⟨D,E2,M2,h3,h4,h5,h6,h7⟩:=yZ h1
   refine⟨⟨x.1,n,x.2,fp⟩ :: D,E2,M2,by simpa using h3,by simp [h4],⟨d₄.2 ⟨fun hm=>?_,h5.1⟩,fun y hy=>?_⟩,by rw [b₆,show n + (L.length + 1)=n + 1 + L.length by omega];exact h6,o,_,_,ho,h2,h7⟩
   ·obtain⟨y,hy,he⟩:=a₈.1 hm
    have:=(h5.2 y hy).1
    simp only at he
    omega
   ·rcases b₀.1 hy with rfl | hy
    ·simp
    ·have:=h5.2 y hy
     simp only [b₆]
     omega
  ·exact h.elim
end
end
section
inductive Rs (n0:Nat) (K:VK):VE→VM→Nat→Prop
 | go {E:VE} {M:VM} {n:Nat} (h:K E M n):Rs n0 K E M n
 | re {E:VE} {M:VM} {n:Nat} (E':VE) (M':VM) (n':Nat) (h:iy n0 E' M' n' E M) (k:K E' M' n'):Rs n0 K E M n
section
variable (Pg:Program) (T:bD) (N:Nat) (ents:List FuncId) (G:GS) (n0:Nat)
def vC:Code→(Exit→VK)→VK
 | .skip,Q,E,M,n=>Q .normal E M n
 | .region _ ops draw,Q,E,M,n=>match draw with
  | false=>ak Pg T N ents G ops ops.toList (Q .normal) E M n
  | true=> ∃L:List (Nat×Bool),aD Pg T N ents G ops L [] (Q .normal) E M n
 | .seq x y,Q,E,M,n=>vC x (fun e E M n=>match e with | .normal=>Rs n0 (vC y Q) E M n | e=>Q e E M n) E M n
 | .cond c x y,Q,E,M,n=>match jL (VE.get E) c with
  | some (.bool t)=>(t=true→vC x Q E M n)∧(t=false→vC y Q E M n)
  | _=>False
 | .block id c,Q,E,M,n=>vC c (fun e E M n=>match e with | .exit i=>(bif a₆ i id then Q .normal E M n else Q (.exit i) E M n) | e=>Q e E M n) E M n
 | .loop c,Q,E,M,_=> ∃(X:Type) (E':X→VE) (M':X→VM) (n':Nat) (I:X→Prop) (μ:X→Nat),
   (∃x,I x∧iy n0 (E' x) (M' x) n' E M)∧
   ∀x,I x→vC c (fun e E1 M1 n1=>match e with | .normal=> ∃x',I x'∧μ x' < μ x∧iy n0 (E' x') (M' x') n' E1 M1 | e=>Q e E1 M1 n1) (E' x) (M' x) n'
 | .exit id,Q,E,M,n=>Q (.exit id) E M n
 | .ret,Q,E,M,n=>Q .ret E M n
 | .label _,Q,E,M,n=>Q .normal E M n
 | _,_,_,_,_=>False
def jl:List MV→MV
 | [v] =>v
 | vs=> .tup vs
def eJ (M:VM) (E:VE):List ResultVar→(List MV→Prop)→Prop
 | [],K=>K []
 | .tmp t :: l,K=>match VE.get E t with
  | some v=>eJ M E l fun r=>K (v :: r)
  | none=>False
 | .cell p ty :: l,K=>match VE.get E p with
  | some p=>(iv T (VM.get M) ty p).runP fun x=>eJ M E l fun r=>K (x.1 :: r)
  | none=>False
def Lc (rs:List ResultVar) (R:MV→Prop):Exit→VK:=fun e E M _=>match e with
 | .ret | .normal=>eJ T M E rs fun vs=>(gN (VM.get M) vs).runP fun x=>R (jl x.1)
 | _=>False
def Ld (rs:List ResultVar) (res:MV) (M1:VM) (n1:Nat):Exit→VK:=fun e E M _=>match e with
 | .ret | .normal=>eJ T M E rs fun vs=> ∃(rv:List MV) (σ bs:List (Nat×Nat)),jl rv=res∧fg n0 rv M1 n1 vs M σ bs
 | _=>False
def wk (rs:List ResultVar) (Φ:MV→VM→Nat→Prop):Exit→VK:=fun e E M _=>match e with
 | .ret | .normal=>eJ T M E rs fun vs=> ∃(res:MV) (M1:VM) (n1:Nat),Φ res M1 n1∧∃(rv:List MV) (σ bs:List (Nat×Nat)),jl rv=res∧fg n0 rv M1 n1 vs M σ bs
 | _=>False
end
section
variable {ops:Array Oper} {e:Nat→Option MV} {F F':Nat→Prop} {Pg:Program} {T:bD} {N:Nat} {ents:List FuncId} {G:GS} {w0 w w':World} {ex0:Iy} {P0 P:cB} {adr:gG} {E:VE} {M:VM} {m:FM} {n:Nat} {a:Act} {r:MV} {u:Value} {δ:Dl}
def Le (N:Nat) (w0:World) (ex0:Iy) (P0:cB) (Q:Exit→VK):Exit→Act→World→Prop:=fun e a w=> ∃E M n,Q e E M n∧qL N w0 ex0 P0 (VE.get E) (VM.get M) n a w
theorem lB.drew (hs:lB N w0 ex0 P0 e m F a w):lB N w0 ex0 P0 e m F a { w with drawn:=w.drawn + 1 }:=by
 obtain⟨P,adr,hI,hE,qA,jF,sL⟩:=hs.ex;have hb:Below w.heap.size w { w with drawn:=w.drawn + 1 }:=⟨rfl,rfl,rfl,b₂ _,fun _ _=>rfl⟩;refine⟨⟨jK w { w with drawn:=w.drawn + 1 } P,adr,hI.below hb,fun t v ht=>?_,qA,⟨jF.in_,jF.old,jF.keep.trans (bJ.below hI.prot hb)⟩,fun b o ho=>?_⟩,hs.fresh,hs.ge,⟨hs.since.os,hs.since.tape,hs.since.output,hs.since.size,hs.since.block⟩,hs.defers,hs.size⟩
 ·obtain⟨u,h1,h2⟩:=hE t v ht;exact⟨u,h1,h2.keep (bJ.below hI.prot hb)⟩
 ·rcases ho with h | h
  ·exact sL b o h
  ·exact .inr (.inl (c₃ hs.since.size h.1))
theorem lB.mono (hs:lB N w0 ex0 P0 e m F a w) (hF: ∀c,F' c→F c):lB N w0 ex0 P0 e m F' a w:=by
 obtain⟨P,adr,hI,hE,qA,jF,sL⟩:=hs.ex;exact⟨⟨P,adr,hI,hE,fun c hc=>qA c (hF c hc),jF,sL⟩,fun c hc=>hs.fresh c (hF c hc),fun c hc=>hs.ge c (hF c hc),hs.since,hs.defers,hs.size⟩
theorem qW {M':VM} {n':Nat} {w':World} {P':cB} {aN:gG} (hd:a.defers= []) (hz:a.tmps.size=N) (hI:bf w' P' aN (VM.get M')) (hE:hJ w' P' aN (VE.get E) a) (hr:aM w' P' aN r u) (h1: ∀c,n'≤c→aN c=none) (h2:jG w0 ex0 P0 w' P' aN)
  (h3: ∀b o,P' b o→P0 b o∨w0.heap.size≤b∨ex0.ex b) (h4: ∀c,n'≤c→VM.get M' c=none) (h5:ex0.n0≤n') (h6:db ex0.ex w0 w') {dst:Option Tmp} {K:VE→Prop} (hK:eY N dst r E K): ∃E',K E'∧qL N w0 ex0 P0 (VE.get E') (VM.get M') n' (a.put dst u) w':=by
 unfold eY at hK
 split at hK
 ·exact⟨E,hK,⟨P',aN,hI,hE,h1,h2,h3⟩,h4,h5,h6,hd,hz⟩
 ·rename_i d
  split at hK
  ·rename_i eS
   have eS:d < N:=by simpa [d₈] using eS
   exact⟨_,hK,⟨P',aN,hI,hE.put hz eS hr,h1,h2,h3⟩,h4,h5,h6,hd,by simp [Act.put,hz]⟩
  ·exact hK.elim
theorem Fe {o:Oper} {k:Nat} (hk:ta Pg E M o=some k) (hI:bf w P adr (VM.get M)) (hE:hJ w P adr (VE.get E) a):(execOp a.eval o).run Pg w= .ok (.value (.int .i64 k)) w:=by
 obtain⟨dst,op,ty,pos,after,guard⟩:=o;unfold ta at hk;split at hk
 ·rename_i c R5;obtain⟨callee,args,er⟩:=c;have R5:op= .call ⟨callee,args,er⟩:=R5;subst R5;split at hk
  ·rename_i sG;have sG:callee= .builtin .len:=sG;subst sG;split at hk
   ·rename_i x t hx ht;have hx:args.toList= [x] :=hx;have ht:er.toList= [t] :=ht;have dj:args= #[x] :=by rw [← Array.toList_inj];exact hx
    have RO:er= #[t] :=by rw [← Array.toList_inj];exact ht
    subst dj;subst RO;split at hk
    ·rename_i c hc;split at hk
     ·rename_i b hb;split at hk
      ·rename_i ks vs hl;split at hk
       ·rename_i kt et hu;split at hk;rotate_left
        ·cases hk
        rename_i Xm;injection hk with hk
        subst hk;obtain⟨g,hg,hv⟩:=(uU hE hc).mp_;obtain⟨Ez,es,hw,hEn⟩:=Ai hI hb hl hg Xm;have hlen:=hEn.len.1;have hr:(Builtin.len_ #[t] ty #[.map (some g)]).run Pg w= .ok (goInt es.size) w:=by
         simp [Builtin.len_,run_underlying hu,MapKept.run_getObj_map hw]
        have e:execOp a.eval ⟨dst, .call ⟨.builtin .len, #[x], #[t]⟩,ty,pos,after,guard⟩=builtin .len #[t] ty ((#[x] :Array Operand).map fun | .const _=>true | _=>false) ((#[x] :Array Operand).map a.eval):=by
         simp [execOp,resolve,invoke];rfl
        have h2:(builtin .len #[t] ty ((#[x] :Array Operand).map fun | .const _=>true | _=>false) #[.map (some g)]).run Pg w= .ok (.value (goInt es.size)) w:=by
         show(do pure (.value (← Builtin.len_ #[t] ty #[.map (some g)])):Sem Next).run Pg w=_
         rw [Sem.run_bind,hr];rfl
        rw [e];have h3:((#[x] :Array Operand).map a.eval)= #[.map (some g)] :=by simp [hv]
        rw [h3,h2,← hlen];rfl
       ·cases hk
      ·cases hk
     ·cases hk
    ·cases hk
   ·cases hk
  ·cases hk
 ·cases hk
theorem Lf (hS:lj Pg T ents G w0 ex0) {o:Oper} {K:VK} {next:Act→World→Prop} {Q:Exit→Act→World→Prop}
  (h:Ao Pg T N ents G ops o K E M n) (hs:qL N w0 ex0 P0 (VE.get E) (VM.get M) n a w) (hn: ∀E M n a w,K E M n→qL N w0 ex0 P0 (VE.get E) (VM.get M) n a w→next a w) :
  if Region.wanted o (yielded ops a.tmps) then o.wp Pg a w next Q∨(o.asks Pg a w∧LetsOut Q) else next (a.put o.dst undef) w:=by
 obtain⟨P,adr,hI,hE,qA,jF,sL⟩:=hs.ex
 have run: ∀{E2:VE},hJ w P adr (VE.get E2) a→(vR Pg T ents G o E2 M n fun r M n=>eY N o.dst r E2 fun E=>K E M n)→o.wp Pg a w next Q:=by
  intro E2 Kr h
  unfold vR at h
  split at h
  ·rename_i k neg hq
   unfold An at hq
   split at hq
   ·rename_i op t x Ob R5
    split at hq
    ·rename_i k' l hx
     split at hq
     ·rename_i e es hd
      have hp:=uU Kr hx
      obtain⟨A,cap,gr,parts,e1,_,_,_,h4,_⟩:=hp.sl_
      have hc:kT T t (.const (.slice none 0 0)) (.val (a.eval x)) (.val (.slice none 0 0))=some A.isNone:=by
       rw [e1]
       cases A with
       | none=>obtain ⟨q1,q2⟩:=h4 rfl;subst q1;subst q2;simp [kT,hd]
       | some _=>simp [kT,hd]
      obtain⟨r1,r2⟩:=vr (xo:=x) (P:=Pg) hS.seat.tab hc w
      have hA:A.isNone=true→k'=0:=fun hA=>(h4 (by simpa using hA)).1
      obtain⟨dst,op',ty,pos,after,guard⟩:=o
      have R5:op'= .binOp op t x (.const (.slice none 0 0)) Ob:=R5
      subst R5
      have fin: ∀(bb:Bool),(do eqGuard op t x (.const (.slice none 0 0)) (a.eval x) (.slice none 0 0);binOp op t (a.eval x) (.slice none 0 0):Sem Value).run Pg w= .ok (.bool bb) w→(eY N dst (.bool bb) E2 fun E=>K E M (n + 1))→(⟨dst, .binOp op t x (.const (.slice none 0 0)) Ob,ty,pos,after,guard⟩:Oper).wp Pg a w next Q:=by
       intro bb hr hk
       have sI:=Ik.val (a:=a) (o:=⟨dst, .binOp op t x (.const (.slice none 0 0)) Ob,ty,pos,after,guard⟩) (Q:=fun u w'=>u= .bool bb∧w'=w) _ rfl hr ⟨rfl,rfl⟩
       obtain⟨E',q1,q2⟩:=qW (n':=n + 1) hs.defers hs.size hI Kr (.val [_] .bool) (fun c hc=>qA c om) jF sL (fun c hc=>hs.fresh c om) (by have:=hs.ge;omega) hs.since hk
       unfold Oper.wp
       rcases sI with ⟨u,w',p1,rfl,rfl⟩ | ⟨w',p1,p2,_⟩
       ·rw [p1];exact hn _ _ _ _ _ q1 q2
       ·cases p2
      split at hq
      ·injection hq with hq;injection hq with S3 hq2;subst S3;subst hq2
       exact fin _ r1 (h A.isNone hA)
      ·injection hq with hq;injection hq with S3 hq2;subst S3;subst hq2
       exact fin _ r2 (h A.isNone hA)
      ·cases hq
     ·cases hq
    ·cases hq
   ·cases hq
  have old:(yh Pg T ents G o E2 M n fun r M=>eY N o.dst r E2 fun E=>K E M (n + 1))→o.wp Pg a w next Q:=by
   intro h
   refine O1 hS h hI qA hs.fresh Kr hs.since fun r δ u w' hk hp=>?_
   obtain⟨E',h1,h2⟩:=hs.post hI Kr qA jF sL hp hk
   exact hn _ _ _ _ _ h1 h2
  obtain⟨dst,op,ty,pos,after,guard⟩:=o
  cases op with
  | call c=>
   obtain⟨callee,args,er⟩:=c
   cases callee with
   | builtin b=>
    rcases h with h | ⟨k,hk,h⟩
    ·exact old h
    ·have k8:=Fe hk hI Kr
     obtain⟨E',q1,q2⟩:=qW (n':=n + 1) hs.defers hs.size hI Kr (.val [_] .int) (fun c hc=>qA c om) jF sL (fun c hc=>hs.fresh c om) (by have:=hs.ge;omega) hs.since h
     unfold Oper.wp
     rw [k8]
     exact hn _ _ _ _ _ q1 q2
   | invoke r n=>exact old h
   | value f=>
    rcases h with h | h
    ·exact old h
    ·unfold eI at h
     obtain⟨pf,h,Ia⟩:=bO Kr h
     obtain⟨ps,h,pG⟩:=jN Kr h
     cases pf with
     | fn f0 caps=>
      generalize hu:a.eval f=uf at Ia
      cases Ia with
      | val cs RG=>
       cases RG with
       | fn parts jD zQ=>
        have fF:=pG.app (dI.of_parts jD zQ)
        have hex: ∀w1,(execOp a.eval ⟨dst, .call ⟨.value f,args,er⟩,ty,pos,after,guard⟩).run Pg w1=(callFunc f0 (args.toList.map a.eval ++ c₄ valM caps parts).toArray).run Pg w1:=fun w1=>by
         have Gc:args.map a.eval=(args.toList.map a.eval).toArray:=kM _ _
         simp [execOp,resolve,hu,valM,MV.isAgg,Deferred.ofValue,invoke,Gc]
        replace h:(match ents.contains f0 with | true=>kc Pg G vQ M n f0 (ps ++ caps) (fun r M n=>eY N dst r E2 fun E=>K E M n) | false=>kc Pg G Ca M n f0 (ps ++ caps) (fun r M n=>eY N dst r E2 fun E=>K E M n)):=h
        split at h
        ·rename_i hc
         have k8:=(hex w).trans (hS.seat.enters f0 (by simpa using hc) (args.toList.map a.eval ++ c₄ valM caps parts).toArray w)
         unfold Oper.wp
         rw [k8]
         refine(yP (C:=fun P f a w Q=>Calls P f a w Q) (fun h k=>h.mono k) hS h hs.since hs.fresh hs.ge hI Kr qA jF sL fF).mono ?_
         rintro e w' ⟨v,rfl,r,M',n',hk,P',aN,q1,q2,q3,q4,q5,q6,q7,q8,q9⟩
         obtain⟨E',h1,h2⟩:=qW hs.defers hs.size q1 q2 q3 q4 q5 q6 q7 q8 q9 hk
         exact hn _ _ _ _ _ h1 h2
        ·obtain⟨v0,w',hr,v,he,r,M',n',hk,P',aN,q1,q2,q3,q4,q5,q6,q7,q8,q9⟩:=yP (C:=yN) (fun h k=>h.mono k) hS h hs.since hs.fresh hs.ge hI Kr qA jF sL fF
         injection he with he
         subst he
         have k8:=(hex w).trans hr
         unfold Oper.wp
         rw [k8]
         obtain⟨E',h1,h2⟩:=qW hs.defers hs.size q1 q2 q3 q4 q5 q6 q7 q8 q9 hk
         exact hn _ _ _ _ _ h1 h2
     | _=>exact h.elim
  | _=>exact old h
 have skip: ∀{E2:VE},hJ w P adr (VE.get E2) a→(eY N o.dst .undef E2 fun E=>K E M (n + 1))→next (a.put o.dst undef) w:=by
  intro E2 Kr h
  obtain⟨E',h1,h2⟩:=hs.post (δ:= .none) hI Kr qA jF sL (bP.pure hI (qA n (b₂ _)) .undef) h
  exact hn _ _ _ _ _ h1 h2
 unfold Ao at h
 split at h
 ·rename_i hg
  rw [if_pos (by simp [Region.wanted,hg])]
  exact .inl (run hE h)
 ·rename_i j want hg
  split at h
  ·exact h.elim
  ·rename_i s hj
   split at h
   ·rename_i t ht
    have hv:=hs.know ht
    have hy:yielded ops a.tmps j=some t:=by simp [yielded,hj,hv]
    by_cases hw:t=want
    ·rw [if_pos (by simp [Region.wanted,hg,hy,hw])]
     exact .inl (run (hE.know (by rw [ht,hw])) (h.1 hw))
    ·have UX:t= !want:=by cases t <;> cases want <;> simp_all
     rw [if_neg (by simp [Region.wanted,hg,hy,hw])]
     exact skip (hE.know (by rw [ht,UX])) (h.2 UX)
   ·rename_i ht
    obtain⟨v,J4,J6⟩:=hE s _ ht
    have hv:v=undef:=J6.undef_
    subst hv
    have hy:yielded ops a.tmps j=none:=by simp [yielded,hj,J4,undef]
    rw [if_neg (by simp [Region.wanted,hg,hy])]
    exact skip hE h
   ·exact h.elim
theorem CD (hS:lj Pg T ents G w0 ex0) (ops:Array Oper): ∀(l:List Oper) {K:VK} {E:VE} {M:VM} {n:Nat} {a:Act} {w:World} {Q:Exit→Act→World→Prop},
  ak Pg T N ents G ops l K E M n→qL N w0 ex0 P0 (VE.get E) (VM.get M) n a w→(∀E M n a w,K E M n→qL N w0 ex0 P0 (VE.get E) (VM.get M) n a w→Q .normal a w)→wpList Pg ops Q l a w
 | [],_,E,M,n,a,w,_,h,hs,hQ=>hQ E M n a w h hs
 | o :: rest,K,E,M,n,a,w,Q,h,hs,hQ=>by
  replace h:Rt n (fun E M=>Ao Pg T N ents G ops o (ak Pg T N ents G ops rest K) E M n) E M:=h
  have key: ∀{E:VE} {M:VM},Rt n (fun E M=>Ao Pg T N ents G ops o (ak Pg T N ents G ops rest K) E M n) E M→qL N w0 ex0 P0 (VE.get E) (VM.get M) n a w→∃E' M',Ao Pg T N ents G ops o (ak Pg T N ents G ops rest K) E' M' n∧qL N w0 ex0 P0 (VE.get E') (VM.get M') n a w:=by
   intro E M h
   induction h with
   | go h=>intro hs;exact⟨_,_,h,hs⟩
   | re E' M' h1 _ ih=>intro hs;exact ih (hs.frz h1)
  obtain⟨E',M',h',lV⟩:=key h hs
  exact Lf hS (next:=wpList Pg ops Q rest) (Q:=Q) h' lV fun _ _ _ _ _ h hs=>CD hS ops rest h hs hQ
theorem Pj (hS:lj Pg T ents G w0 ex0) {id:Nat} {L:List (Nat×Bool)} {Q:Exit→VK} (h:aD Pg T N ents G ops L [] (Q .normal) E M n) (hs:qL N w0 ex0 P0 (VE.get E) (VM.get M) n a w):(Code.region id ops true).wp Pg (Le N w0 ex0 P0 Q) a w:=by
 obtain⟨D,E1,M1,eG,X7,⟨Ib,N7⟩,hq,hr⟩:=yZ h;rw [List.reverse_nil,List.nil_append] at eG;simp only [iA,a₀,b₃] at eG;obtain⟨⟨Y4,fF⟩,hlen⟩:=eG;obtain⟨hP,hA⟩:=yX Y4;refine wp_region_any hS.seat.mixed ?_;refine Tj (Z:=fun c=>n + L.length≤c) hS (fun a w lV=>⟨E1,M1,_,hq,lV.toSim fun c hc=>hc⟩) ops.size D ⟨M,rfl⟩ hr hP hA Ib (fun x hx hz=>?_) ?_ (fun k hk=>?_) sm (fun k o ho hl=>?_) ?_
 ·have:=(N7 x hx).2;omega
 ·refine(hs.toS.drew).mono fun c hc=>?_
  rcases hc with hc | hc
  ·obtain⟨x,hx,rfl⟩:=a₈.1 hc;exact(N7 x hx).1
  ·show n≤c
   replace hc:n + L.length≤c:=hc;omega
 ·have h1:(Array.replicate ops.size false).getD k true=false:=by simp [Array.getD,hk]
  have h2:k∈D.map (·.k):=by simpa using fF k (by simpa using hk)
  exact⟨fun _=>h2,fun _=>h1⟩
 ·exfalso;by_cases hk:k < ops.size
  ·simp [Array.getD,hk] at hl
  ·simp [Array.getD,hk] at hl
 ·simpa using hlen
theorem Lg (hS:lj Pg T ents G w0 ex0): ∀(c:Code) {Q:Exit→VK} {E:VE} {M:VM} {n:Nat} {a:Act} {w:World},
  vC Pg T N ents G ex0.n0 c Q E M n→qL N w0 ex0 P0 (VE.get E) (VM.get M) n a w→c.wp Pg (Le N w0 ex0 P0 Q) a w:=by
 intro c
 induction c with
 | skip=>intro Q E M n a w h hs;exact wp_skip ⟨E,M,n,h,hs⟩
 | region id ops draw=>
  intro Q E M n a w h hs
  cases draw with
  | false=>exact wp_region_list (CD hS ops _ h hs fun E M n a w hk hs=>⟨E,M,n,hk,hs⟩)
  | true=>
   obtain⟨L,h⟩:=h
   exact Pj hS h hs
 | seq x y ihx ihy=>
  intro Q E M n a w h hs
  refine wp_seq (Code.wp_mono (fun e a w hq=>?_) (ihx h hs))
  obtain⟨E',M',n',hq,lV⟩:=hq
  cases e with
  | normal=>
   cases hq with
   | go h=>exact ihy h lV
   | re E2 M2 n2 h k=>exact ihy k (lV.matched h)
  | _=>exact ⟨E',M',n',hq,lV⟩
 | cond c x y ihx ihy=>
  intro Q E M n a w h hs
  simp only [vC] at h
  split at h
  ·rename_i t ht
   obtain⟨P,adr,hI,hE,_⟩:=hs.ex
   have hv:=(uU hE ht).bool_
   exact wp_cond_split hv (fun ht=>ihx (h.1 ht) hs) (fun ht=>ihy (h.2 ht) hs)
  ·exact h.elim
 | block id c ih=>
  intro Q E M n a w h hs
  refine wp_block (Code.wp_mono (fun e a w hq=>?_) (ih h hs))
  obtain⟨E',M',n',hq,lV⟩:=hq
  cases e with
  | exit i=>
   by_cases hi:i=id
   ·subst hi
    simp at hq
    simp only [Exit.inBlock,if_true]
    exact⟨E',M',n',hq,lV⟩
   ·simp only [ir hi,cond_false] at hq
    simp only [Exit.inBlock,hi,if_false]
    exact⟨E',M',n',hq,lV⟩
  | _=>exact ⟨E',M',n',hq,lV⟩
 | loop c ih=>
  intro Q E M n a w h hs
  obtain⟨X,E',M',n',I,μ,⟨x0,Ov,Yt⟩,h1⟩:=h
  have UN:=hs.matched Yt
  intro b k cs
  have key: ∀j x a w,μ x=j→I x→qL N w0 ex0 P0 (VE.get (E' x)) (VM.get (M' x)) n' a w→
    ∃e a' w',Le N w0 ex0 P0 Q e a' w'∧Arrives Pg (lone (b.at a (.code c :: .inLoop c :: k)) cs w) b k cs e a' w':=by
   intro j
   induction j using Nat.strongRecOn with
   | _ j ihn=>
    intro x a w hn hI hs
    obtain⟨e,a₁,w₁,hq,Ej⟩:=ih (h1 x hI) hs b (.inLoop c :: k) cs
    obtain⟨E1,M1,n1,hq,tX⟩:=hq
    cases e with
    | normal=>
     obtain⟨x',VI,eS,hm⟩:=hq
     obtain⟨e₂,a₂,w₂,hq₂,YG⟩:=ihn (μ x') (hn▸eS) x' a₁ w₁ rfl VI (tX.matched hm)
     exact⟨e₂,a₂,w₂,hq₂, .of_steps (Steps.trans Ej (.one step_inLoop)) YG⟩
    | exit id=>exact ⟨_,a₁,w₁,⟨E1,M1,n1,hq,tX⟩, .pass (x:= .inLoop c) rfl (fun _ _=> .inl sm) Ej⟩
    | goto l=>exact ⟨_,a₁,w₁,⟨E1,M1,n1,hq,tX⟩, .pass (x:= .inLoop c) rfl (fun _ _=> .inl sm) Ej⟩
    | ret=>exact ⟨_,a₁,w₁,⟨E1,M1,n1,hq,tX⟩, .pass (x:= .inLoop c) rfl (fun _ _=> .inl sm) Ej⟩
    | panic ch=>exact ⟨_,a₁,w₁,⟨E1,M1,n1,hq,tX⟩, .pass (x:= .inLoop c) rfl (fun _ _=> .inl sm) Ej⟩
    | outgrown=>exact ⟨_,a₁,w₁,⟨E1,M1,n1,hq,tX⟩, .pass (x:= .inLoop c) rfl (fun _ _=> .inl sm) Ej⟩
  obtain⟨e,a',w',hq,Ej⟩:=key _ x0 a w rfl Ov UN
  exact⟨e,a',w',hq, .of_steps (.one step_loop) Ej⟩
 | exit id=>intro Q E M n a w h hs;exact wp_exit ⟨E,M,n,h,hs⟩
 | ret=>intro Q E M n a w h hs;exact wp_ret ⟨E,M,n,h,hs⟩
 | label l=>intro Q E M n a w h hs;exact wp_label ⟨E,M,n,h,hs⟩
 | rangeFunc=>intro Q E M n a w h;exact h.elim
 | scope=>intro Q E M n a w h;exact h.elim
 | goto=>intro Q E M n a w h;exact h.elim
 | refuse=>intro Q E M n a w h;exact h.elim
theorem lC (hT:cZ Pg T) (hI:bf w P adr (VM.get M)) (hE:hJ w P adr (VE.get E) a): ∀{rs:List ResultVar} {K:List MV→Prop},eJ T M E rs K→
  ∃(ps:List MV) (vs:List Value),vs.length=rs.length∧(∀(i:Nat) (r:ResultVar),rs[i]? =some r→∃v,vs[i]? =some v∧(vy a.tmps r).run Pg w= .ok v w)∧dI w P adr ps vs∧K ps
 | [],K,h=>⟨[],[],rfl,fun i r hi=>by simp at hi, .nil,h⟩
 | .tmp t :: l,K,h=>by
  unfold eJ at h
  split at h
  ·rename_i p hp
   obtain⟨v,h1,h2⟩:=hE t p hp
   obtain⟨ps,vs,hl,hi,hr,hK⟩:=lC hT hI hE h
   refine⟨p :: ps,v :: vs,by simp [hl],fun i r hr=>?_, .cons h2 hr,hK⟩
   cases i with
   | zero=>simp at hr;subst hr;exact⟨v,rfl,by simp [vy,h1]⟩
   | succ i=>exact hi i r (by simpa using hr)
  ·exact h.elim
 | .cell p ty :: l,K,h=>by
  unfold eJ at h
  split at h
  ·rename_i q hq
   obtain⟨uv,h1,h2⟩:=hE p q hq
   obtain⟨r0,v,h3,h4,h5⟩:=BV hT h h2 hI
   obtain⟨ps,vs,hl,hi,hr,hK⟩:=lC hT hI hE h3
   refine⟨r0 :: ps,v :: vs,by simp [hl],fun i r hr=>?_, .cons h5 hr,hK⟩
   cases i with
   | zero=>
    simp at hr
    subst hr
    refine⟨v,rfl,?_⟩
    have BA:a.tmps.getD p undef=uv:=by simp [h1]
    simp only [vy,BA]
    exact yb h4
   | succ i=>exact hi i r (by simpa using hr)
  ·exact h.elim
theorem AE {ps:List MV} {vs:List Value} (h:dI w P adr ps vs) (hv: ∀p∈ps,p.isVal=true):aM w P adr (jl ps) (tup vs):=by
 obtain⟨parts,h1,h2,rfl⟩:=h.caps hv
 match ps,parts,h1,h2 with
 | [],[],_,_=>exact .tup [] rfl (fun j m u h=>by simp at h)
 | [p],[q],_,h2=>exact .val q (h2 0 p q rfl rfl)
 | p :: p' :: ps,q :: q' :: parts,h1,h2=>
  refine .tup (c₄ valM (p :: p' :: ps) (q :: q' :: parts)) (by rw [List.length_zipWith];simp at h1 ⊢;omega) fun j m u hj hu=>?_
  rw [List.getElem?_zipWith] at hu;rw [hj] at hu;cases hq:(q :: q' :: parts)[j]? with
  | none=>rw [hq] at hu;cases hu
  | some c=>
   rw [hq] at hu;injection hu with hu
   exact⟨c,h2 j m c hj hq,hu.symm⟩
theorem qX: ∀{l:List MV} {i t:Nat} {v:MV},VE.get (sX i l) t=some v→i≤t∧l[t - i]? =some v
 | [],i,t,v,h=>by simp [sX,VE.get] at h
 | x :: l,i,t,v,h=>by
  rw [sX,VE.get_cons] at h
  split at h
  ·rename_i e;subst e;injection h with h;subst h;simp
  ·rename_i e
   obtain⟨h1,h2⟩:=qX h
   refine⟨om,?_⟩
   rw [show t - i=(t - (i + 1)) + 1 by omega]
   simpa using h2
theorem dI.get: ∀{ps:List MV} {vs:List Value},dI w P adr ps vs→∀{i:Nat} {p:MV},ps[i]? =some p→∃v,vs[i]? =some v∧aM w P adr p v
 | _,_, .nil,i,p,h=>by simp at h
 | _,_, .cons (p:=q) (v:=v) h t,i,p,hi=>by
  cases i with
  | zero=>simp at hi;subst hi;exact⟨v,rfl,h⟩
  | succ i=>simpa using t.get (i:=i) (by simpa using hi)
theorem dI.length: ∀{ps:List MV} {vs:List Value},dI w P adr ps vs→ps.length=vs.length
 | _,_, .nil=>rfl
 | _,_, .cons _ t=>by simp [t.length]
theorem IV {K:List MV×List (Nat×Nat)→Prop} {m:FM}: ∀{l:List MV},(gN m l).runP K→(gN m l).runP fun x=>K x∧∀p∈x.1,p.isVal=true:=by
 have one: ∀{p:MV} {K:MV×List (Nat×Nat)→Prop},(dO m p).runP K→(dO m p).runP fun x=>K x∧x.1.isVal=true:=by
  intro p K h;cases p <;> simp only [dO] at h ⊢
  case ms c es off n=>
   split at h
   ·split at h
    ·obtain⟨a1,l,a2,h⟩:=h;exact⟨a1,l,a2,h,rfl⟩
    ·exact h.elim
   ·exact h.elim
  case ptr c es k fo path=>
   split at h
   ·rename_i b hb;cases he:a₆ b.es es with
    | false=>rw [he] at h;exact h.elim
    | true=>
     rw [he] at h;obtain⟨v,q1,h⟩:=h;cases hf:v.idFree with
     | false=>rw [hf] at h;exact h.elim
     | true=>rw [hf] at h;exact⟨v,q1,by simp only [hf];exact⟨h,rfl⟩⟩
   ·exact h.elim
  case st l=>exact dV (bz.bind_runP.1 h) fun _ h=>⟨h,rfl⟩
  case fn f l=>exact dV (bz.bind_runP.1 h) fun _ h=>⟨h,rfl⟩
  case ifc t v=>exact jh (bz.bind_runP.1 h) fun _ h=>⟨h,rfl⟩
  all_goals first | exact h.elim | exact⟨h,rfl⟩
 intro l
 induction l generalizing K with
 | nil=>intro h;exact⟨h,fun p hp=>nomatch hp⟩
 | cons q l ih=>
  intro h;simp only [gN] at h ⊢;refine jh (one (bz.bind_runP.1 h)) fun x hx=>?_
  refine dV (ih (bz.bind_runP.1 hx.1)) fun y hy=>⟨hy.1,fun p hp=>?_⟩
  rcases b₀.1 hp with rfl | hp
  ·exact hx.2
  ·exact hy.2 p hp
theorem Ff (hS:Seat Pg T ents) {f:FuncId} {fn:Func} {c:Code} {rs:List ResultVar} (hf:Pg.funcs[f]? =some fn) (hb:fn.body=some c) (qv:fn.results=rs.toArray) (h5:rs.length≤6) {args:List MV} (hn:args.length≤fn.ntmps) (hN:fn.ntmps=N) {res:MV}
  (h:vC Pg T N ents G 0 c (Lc T rs fun r=>r=res) (sX 0 args) [] 0):aE Pg G f args res:=by
 intro w P dY hg hP dj
 have XA:lj Pg T ents G w KN:=⟨hS,fun w' h=>G.stab w w' _ hg (fun _ h=>h.elim) h,fun _ h=>h.elim,fun g h=>G.lt w g hg h⟩
 have hlen:=dj.length
 have h0:qL N w KN P (VE.get (sX 0 args)) (VM.get []) 0 { tmps:=dY.toArray ++ Array.replicate (fn.ntmps - dY.toArray.size) undef,defers:= [] } w:=by
  refine⟨⟨P,noAdr,⟨fun c b hc=>by simp [VM.get] at hc,fun c d b b' g hc=>by simp [VM.get] at hc,hP⟩,fun t v ht=>?_,fun _ _=>rfl,⟨fun c g hc=>(nomatch hc),fun c hc=>absurd hc (Nat.not_lt_zero c),bJ.refl _ _ _⟩,fun b o h=> .inl h⟩,fun c _=>rfl,e₉ _,db.refl _ _,rfl,by simp;omega⟩
  obtain⟨_,h2⟩:=qX ht
  rw [e₄] at h2
  obtain⟨u,h3,h4⟩:=dj.get h2
  have eS:=(b₄.1 h3).1
  refine⟨u,?_,h4⟩
  show(dY.toArray ++ Array.replicate (fn.ntmps - dY.toArray.size) undef)[t]? =some u
  rw [Array.getElem?_append_left (by simpa using eS)]
  simpa using h3
 refine calls_of_wp hf hb (Code.wp_mono (fun e a w' hq=>?_) (Lg (ex0:=KN) XA c h h0))
 obtain⟨E',M',n',hq,hs⟩:=hq
 have fin:eJ T M' E' rs (fun vs=>(gN (VM.get M') vs).runP fun x=>jl x.1=res)→
   a.defers= [] ∧∃v,(results fn a.tmps).run Pg w'= .ok v w'∧∃v',Ending.returned v= .returned v'∧aM w' (jK w w' P) noAdr res v'∧Below w.heap.size w w':=by
  intro hq
  obtain⟨P',aN,hI,hE,qA,jF,sL⟩:=hs.ex
  obtain⟨ps,vs,hl,hi,hr,hK⟩:=lC hS.tab hI hE hq
  obtain⟨l',bs,⟨Zt,Xq⟩,P2,h1,h2,h3,h4⟩:=sY (IV hK) hr hI
  refine⟨hs.defers,tup vs,nk qv h5 hl hi,tup vs,rfl,?_,hs.since.below⟩
  rw [← Zt]
  refine(AE h4 Xq).keep ⟨fun b o hp=>?_,fun _ _ _=>rfl,fun _ _ h=>(nomatch h),fun _ _ _ _ h=>nomatch h⟩
  rcases h3 b o hp with Kq | ⟨c',uE⟩
  ·rcases sL b o Kq with h | h | h
   ·exact .inl h
   ·exact .inr ⟨h,hI.prot b o Kq⟩
   ·exact h.elim
  ·rcases jF.in_ c' b uE with h | h
   ·exact .inr ⟨h,h1.prot b o hp⟩
   ·exact h.elim
 cases e with
 | normal=>exact fin hq
 | ret=>exact fin hq
 | _=>exact hq.elim
theorem bA (hS:Seat Pg T ents) {f:FuncId} {fn:Func} (hf:Pg.funcs[f]? =some fn) (N:Nat) {c:Code} {rs:List ResultVar} {args:List MV} {res:MV} (h:vC Pg T N ents G 0 c (Lc T rs fun r=>r=res) (sX 0 args) [] 0) (hb:fn.body=some c:=by rfl) (qv:fn.results=rs.toArray:=by rfl) (h5:rs.length≤6:=by exact Nat.le_of_ble_eq_true rfl) (hn:args.length≤fn.ntmps:=by exact Nat.le_of_ble_eq_true rfl) (hN:fn.ntmps=N:=by rfl):aE Pg G f args res:=Ff hS hf hb qv h5 hn hN h
theorem Fg (hS:Seat Pg T ents) {f:FuncId} {fn:Func} {c:Code} {rs:List ResultVar} (hf:Pg.funcs[f]? =some fn) (hb:fn.body=some c) (qv:fn.results=rs.toArray) (h5:rs.length≤6) {args:List MV} (hn:args.length≤fn.ntmps) (hN:fn.ntmps=N) {M0:VM} {n0:Nat} (Vm:M0.all (fun x=>a₄ x.1 n0)=true) {res:MV} {M1:VM} {n1:Nat}
  (h:vC Pg T N ents G n0 c (Ld T n0 rs res M1 n1) (sX 0 args) M0 n0):aT Pg G f args M0 n0 res M1 n1:=by
 intro w P adr dY hg Ov uD hL dj
 have XA:lj Pg T ents G w ⟨fun g=> ∃c,adr c=some g,adr,n0,fun c g hc=>by
   rcases c₇ c n0 with h | h
   ·exact h
   ·rw [uD c h] at hc;cases hc⟩:=⟨hS,fun w' h=>G.stab w w' _ hg (fun g ⟨c,hc⟩=>hL c g hc) h,fun g ⟨c,hc⟩=>hL c g hc,fun g h=>G.lt w g hg h⟩
 have hlen:=dj.length
 have h0:qL N w ⟨fun g=> ∃c,adr c=some g,adr,n0,fun c g hc=>by
   rcases c₇ c n0 with h | h
   ·exact h
   ·rw [uD c h] at hc;cases hc⟩ P (VE.get (sX 0 args)) (VM.get M0) n0 { tmps:=dY.toArray ++ Array.replicate (fn.ntmps - dY.toArray.size) undef,defers:= [] } w:=by
  refine⟨⟨P,adr,Ov,fun t v ht=>?_,uD,⟨fun c g hc=> .inr ⟨c,hc⟩,fun c _=>rfl,bJ.refl _ _ _⟩,fun b o h=> .inl h⟩,fun c hc=>s9 Vm hc,b₂ _,db.refl _ _,rfl,by simp;omega⟩
  obtain⟨_,h2⟩:=qX ht
  rw [e₄] at h2
  obtain⟨u,h3,h4⟩:=dj.get h2
  have eS:=(b₄.1 h3).1
  refine⟨u,?_,h4⟩
  show(dY.toArray ++ Array.replicate (fn.ntmps - dY.toArray.size) undef)[t]? =some u
  rw [Array.getElem?_append_left (by simpa using eS)]
  simpa using h3
 refine calls_of_wp hf hb (Code.wp_mono (fun e a w' hq=>?_) (Lg XA c h h0))
 obtain⟨E',M',n',hq,hs⟩:=hq
 have fin:eJ T M' E' rs (fun vs=> ∃(rv:List MV) (σ bs:List (Nat×Nat)),jl rv=res∧fg n0 rv M1 n1 vs M' σ bs)→
   a.defers= [] ∧∃v,(results fn a.tmps).run Pg w'= .ok v w'∧∃v',Ending.returned v= .returned v'∧∃P' aN,bf w' P' aN (VM.get M1)∧aM w' P' aN res v'∧bJ w w' P P' adr aN∧(∀c,c < n0→aN c=adr c)∧(∀c,n1≤c→aN c=none)∧
   (∀c g,aN c=some g→w.heap.size≤g∨∃c0,adr c0=some g)∧(∀b o,P' b o→P b o∨w.heap.size≤b∨∃c0,adr c0=some b)∧db (fun g=> ∃c0,adr c0=some g) w w':=by
  intro hq
  obtain⟨P1,adr1,hI,hE,qA,jF,sL⟩:=hs.ex
  obtain⟨ps,vs,hl,hi,hr,rv,σ,bs,sI,eG,Ge,fF,Gi,OK⟩:=lC hS.tab hI hE hq
  have hσ:=ll eG
  obtain⟨P2,i1,i2,i3,i4⟩:=hI.frozen Ge
  obtain⟨r1,r2⟩:=ji i4 Gi (hr.kp i2)
  have hA:=(jF.frozen i2).matched hσ
  refine⟨hs.defers,tup vs,nk qv h5 hl hi,tup vs,rfl,P2,gw (dw n0 σ) adr1,i1.matched hσ i4 OK,?_,hA.keep,fun c hc=>hA.old c hc,fun c hc=>ln hσ hc,fun c g hc=>hA.in_ c g hc,fun b o ho=>?_,hs.since⟩
  ·rw [← sI];exact AE r1 r2
  ·rcases i3 b o ho with h | ⟨c,h⟩
   ·exact sL b o h
   ·rcases jF.in_ c b h with h | h
    ·exact .inr (.inl h)
    ·exact .inr (.inr h)
 cases e with
 | normal=>exact fin hq
 | ret=>exact fin hq
 | _=>exact hq.elim
theorem dK (hS:Seat Pg T ents) {f:FuncId} {fn:Func} (hf:Pg.funcs[f]? =some fn) (N:Nat) {c:Code} {rs:List ResultVar} {args:List MV} {M0:VM} {n0:Nat} {res:MV} {M1:VM} {n1:Nat} (h:vC Pg T N ents G n0 c (Ld T n0 rs res M1 n1) (sX 0 args) M0 n0) (hb:fn.body=some c:=by rfl) (qv:fn.results=rs.toArray:=by rfl) (h5:rs.length≤6:=by exact Nat.le_of_ble_eq_true rfl) (hn:args.length≤fn.ntmps:=by exact Nat.le_of_ble_eq_true rfl) (hN:fn.ntmps=N:=by rfl) (Vm:M0.all (fun x=>Nat.blt x.1 n0)=true:=by rfl):aT Pg G f args M0 n0 res M1 n1:=Fg hS hf hb qv h5 hn hN Vm h
theorem Fh (hS:Seat Pg T ents) {f:FuncId} {fn:Func} {c:Code} {rs:List ResultVar} (hf:Pg.funcs[f]? =some fn) (hb:fn.body=some c) (qv:fn.results=rs.toArray) (h5:rs.length≤6) {args:List MV} (hn:args.length≤fn.ntmps) (hN:fn.ntmps=N) {M0:VM} {n0:Nat} (Vm:M0.all (fun x=>a₄ x.1 n0)=true) {Φ:MV→VM→Nat→Prop}
  (h:vC Pg T N ents G n0 c (wk T n0 rs Φ) (sX 0 args) M0 n0):vQ Pg G f args M0 n0 Φ:=by
 intro w P adr dY hg Ov uD hL dj
 have XA:lj Pg T ents G w ⟨fun g=> ∃c,adr c=some g,adr,n0,fun c g hc=>by
   rcases c₇ c n0 with h | h
   ·exact h
   ·rw [uD c h] at hc;cases hc⟩:=⟨hS,fun w' h=>G.stab w w' _ hg (fun g ⟨c,hc⟩=>hL c g hc) h,fun g ⟨c,hc⟩=>hL c g hc,fun g h=>G.lt w g hg h⟩
 have hlen:=dj.length
 have h0:qL N w ⟨fun g=> ∃c,adr c=some g,adr,n0,fun c g hc=>by
   rcases c₇ c n0 with h | h
   ·exact h
   ·rw [uD c h] at hc;cases hc⟩ P (VE.get (sX 0 args)) (VM.get M0) n0 { tmps:=dY.toArray ++ Array.replicate (fn.ntmps - dY.toArray.size) undef,defers:= [] } w:=by
  refine⟨⟨P,adr,Ov,fun t v ht=>?_,uD,⟨fun c g hc=> .inr ⟨c,hc⟩,fun c _=>rfl,bJ.refl _ _ _⟩,fun b o h=> .inl h⟩,fun c hc=>s9 Vm hc,b₂ _,db.refl _ _,rfl,by simp;omega⟩
  obtain⟨_,h2⟩:=qX ht
  rw [e₄] at h2
  obtain⟨u,h3,h4⟩:=dj.get h2
  have eS:=(b₄.1 h3).1
  refine⟨u,?_,h4⟩
  show(dY.toArray ++ Array.replicate (fn.ntmps - dY.toArray.size) undef)[t]? =some u
  rw [Array.getElem?_append_left (by simpa using eS)]
  simpa using h3
 refine calls_of_wp hf hb (Code.wp_mono (fun e a w' hq=>?_) (Lg XA c h h0))
 obtain⟨E',M',n',hq,hs⟩:=hq
 have fin:eJ T M' E' rs (fun vs=> ∃(res:MV) (M1:VM) (n1:Nat),Φ res M1 n1∧∃(rv:List MV) (σ bs:List (Nat×Nat)),jl rv=res∧fg n0 rv M1 n1 vs M' σ bs)→
   a.defers= [] ∧∃v,(results fn a.tmps).run Pg w'= .ok v w'∧∃v',Ending.returned v= .returned v'∧∃(res:MV) (M1:VM) (n1:Nat),Φ res M1 n1∧∃P' aN,bf w' P' aN (VM.get M1)∧aM w' P' aN res v'∧bJ w w' P P' adr aN∧(∀c,c < n0→aN c=adr c)∧(∀c,n1≤c→aN c=none)∧
   (∀c g,aN c=some g→w.heap.size≤g∨∃c0,adr c0=some g)∧(∀b o,P' b o→P b o∨w.heap.size≤b∨∃c0,adr c0=some b)∧db (fun g=> ∃c0,adr c0=some g) w w':=by
  intro hq
  obtain⟨P1,adr1,hI,hE,qA,jF,sL⟩:=hs.ex
  obtain⟨ps,vs,hl,hi,hr,res,M1,n1,hΦ,rv,σ,bs,sI,eG,Ge,fF,Gi,OK⟩:=lC hS.tab hI hE hq
  have hσ:=ll eG
  obtain⟨P2,i1,i2,i3,i4⟩:=hI.frozen Ge
  obtain⟨r1,r2⟩:=ji i4 Gi (hr.kp i2)
  have hA:=(jF.frozen i2).matched hσ
  refine⟨hs.defers,tup vs,nk qv h5 hl hi,tup vs,rfl,res,M1,n1,hΦ,P2,gw (dw n0 σ) adr1,i1.matched hσ i4 OK,?_,hA.keep,fun c hc=>hA.old c hc,fun c hc=>ln hσ hc,fun c g hc=>hA.in_ c g hc,fun b o ho=>?_,hs.since⟩
  ·rw [← sI];exact AE r1 r2
  ·rcases i3 b o ho with h | ⟨c,h⟩
   ·exact sL b o h
   ·rcases jF.in_ c b h with h | h
    ·exact .inr (.inl h)
    ·exact .inr (.inr h)
 cases e with
 | normal=>exact fin hq
 | ret=>exact fin hq
 | _=>exact hq.elim
theorem dL {f:FuncId} {args:List MV} {res:MV} (h:aE Pg G f args res):aT Pg G f args [] 0 res [] 0:=by
 intro w P adr dY hg hI hn hL dj;have e:adr=noAdr:=by funext c;exact hn c (e₉ _)
 subst e;refine(h w P dY hg hI.prot dj).mono ?_;rintro e w' ⟨v,rfl,h1,h2⟩;have hb:=bJ.below (adr:=noAdr) hI.prot h2;refine⟨v,rfl,jK w w' P,noAdr,hI.below h2,h1,hb,fun _ _=>rfl,fun _ _=>rfl,fun c g hc=>(nomatch hc),fun b o ho=>?_,(db.of_below h2).weak fun _ e=>e.elim⟩;rcases ho with h | h
 ·exact .inl h
 ·exact .inr (.inl h.1)
end
end
section
open Go.RowKit Go.ChangeShapes Go.Deep
def IW (W:World):cB:=fun b _=>b < W.heap.size
mutual
def MV.bulk:MV→Nat
 | .str s=>s.length + 1
 | .sl _ l=>MV.bulks l + 1
 | .st l=>MV.bulks l + 1
 | _=>1
def MV.bulks:List MV→Nat
 | [] =>0
 | m :: l=>MV.bulk m + MV.bulks l
end
theorem wm {H:Type} (d:DataW H):1≤Rows.uptoBulk d:=by
 cases d with
 | lit l=>cases l <;> simp [Rows.uptoBulk]
 | nil=>simp [Rows.uptoBulk]
 | ptr d=>simp [Rows.uptoBulk]
 | slice elems spare=>simp [Rows.uptoBulk]
 | agg parts=>simp [Rows.uptoBulk]
 | iface t d=>simp [Rows.uptoBulk]
 | map entries=>simp [Rows.uptoBulk]
 | held h=>simp [Rows.uptoBulk]
theorem y5 {H:Type} (f:Nat→MV) (D:Nat→DataW H): ∀(l:List Nat),(∀i∈l,(f i).bulk≤Rows.uptoBulk (D i))→MV.bulks (l.map f)≤Rows.uptoBulkAll (l.map D)
 | [],_=>b₂ _
 | i :: l,h=>by
  have h1:=h i sm
  have h2:=y5 f D l fun j hj=>h j (by simp [hj])
  simp only [b₅,MV.bulks,Rows.uptoBulkAll]
  omega
def Opn (P:Program) (t:TypeId) (n:Nat) (Q:MV→Prop):Prop:=
 P.cellsOf t=n∧∀{H:Type} (enc:TypeId×Value→H) (W:World) (spare:Nat→Bool) (held:Bool) (fuel:Nat) (cs:List Value) (d:DataW H) (p:List MemPlace),
  DataW.trod enc P W 0 spare held fuel t cs=some (d,p)→(d.weights P t).all (· ≤reachBytes)=true→cs.length=n∧∃m,Q m∧dk W (IW W) noAdr m cs∧m.bulk≤Rows.uptoBulk d
section
variable {P:Program} {t e:TypeId}
theorem Opn.int {k:IntKind} (hu:P.underlying t=some (.int k)) (hc:P.cellsOf t=1):Opn P t 1 fun m=> ∃n,m= .int k n∧(Lit.int k n).wf=true:=
 ⟨hc,fun enc W spare held fuel cs d p h _=>by
  obtain⟨n,rfl,_,hw⟩:=DataW.trod_int hu h;exact⟨rfl,_,⟨n,rfl,hw⟩, .int,wm d⟩⟩
theorem Opn.bool (hu:P.underlying t=some .bool) (hc:P.cellsOf t=1):Opn P t 1 fun m=> ∃b,m= .bool b:=
 ⟨hc,fun enc W spare held fuel cs d p h _=>by
  obtain⟨b,rfl,_⟩:=DataW.trod_bool hu h;exact⟨rfl,_,⟨b,rfl⟩, .bool,wm d⟩⟩
theorem Opn.str (hu:P.underlying t=some .string) (hc:P.cellsOf t=1):Opn P t 1 fun m=> ∃s,m= .str s∧s.length≤140737488355328:=
 ⟨hc,fun enc W spare held fuel cs d p h hw=>by
  obtain⟨s,rfl,hx,_⟩:=DataW.trod_string hu h;simp only [e₀] at hx;obtain⟨rfl,rfl⟩:=hx;have h2:s.data.size≤reachBytes:=by simpa [DataW.weights] using hw
  exact⟨rfl,_,⟨s.data.toList,rfl,by simpa using c₃ h2 BJ⟩, .str,by simp [MV.bulk,Rows.uptoBulk]⟩⟩
theorem Opn.slice {n:Nat} {Q:MV→Prop} (hu:P.underlying t=some (.slice e)) (hc:P.cellsOf t=1) (hb:0 < P.bytesOf e) (lT:0 < n) (hr:Opn P e n Q):Opn P t 1 fun m=> ∃l,m= .sl l.length l∧(∀x∈l,Q x)∧l.length≤140737488355328:=by
 refine⟨hc,fun {H} enc W spare held fuel cs d p h hw=>?_⟩;rcases open_slice hu h with ⟨rfl,_⟩ | ⟨a,len,cap,m,nn,D,Pl,rfl,_,hle,_,hm,hx,hi⟩
 ·exact⟨rfl,_,⟨[],rfl,sm,sm⟩, .sl none 0 0 [] rfl rfl (fun p hp=>nomatch hp) (fun _=>⟨rfl,rfl⟩) (b₂ _) (fun h=>absurd rfl h) (fun j m p h=>by simp at h),wm _⟩
 ·simp only [e₀] at hx;obtain⟨rfl,rfl⟩:=hx;simp only [DataW.weights,hu,List.all_cons,f₇,a₀,f₈,e₈] at hw;have h0w:len≤m:=by rw [hm];split <;> omega
  have hlen:len≤140737488355328:=by
   have h1:=ot hw.1;have h3:=BJ;have h2:len * 1≤(len + (m - len)) * P.bytesOf e:=Nat.mul_le_mul om hb;omega
  have key: ∀i,i < len→∃x:MV×List Value,Q x.1∧dk W (IW W) noAdr x.1 x.2∧x.2.length=n∧(∀j v,x.2[j]? =some v→W.cell? (a.add (i * n + j))=some v)∧x.1.bulk≤Rows.uptoBulk (D i):=by
   intro i Gq;obtain⟨Zg,uE,ht⟩:=hi i om;rw [hr.1] at uE;obtain⟨_,hl,hat⟩:=World.cells?_some uE;have uP:D i∈List.map D (b₇ len):=a₈.2 ⟨i,c₀.2 Gq,rfl⟩;obtain⟨nd,x,BB,yF,SG⟩:=hr.2 enc W spare held nn Zg (D i) (Pl i) ht (vn hw.2.1 uP);refine⟨(x,Zg),BB,yF,nd,fun j v hv=>?_,SG⟩;have hj:j < Zg.length:=(b₄.1 hv).1;have:=hat j om;rw [Go.Deep.add_add] at this;rw [this,hv]
  have ex: ∃f:Nat→MV×List Value,∀i,i < len→Q (f i).1∧dk W (IW W) noAdr (f i).1 (f i).2∧(f i).2.length=n∧(∀j v,(f i).2[j]? =some v→W.cell? (a.add (i * n + j))=some v)∧(f i).1.bulk≤Rows.uptoBulk (D i):=
   ⟨fun i=>Classical.epsilon fun x=>Q x.1∧dk W (IW W) noAdr x.1 x.2∧x.2.length=n∧(∀j v,x.2[j]? =some v→W.cell? (a.add (i * n + j))=some v)∧x.1.bulk≤Rows.uptoBulk (D i),fun i Gq=>Classical.epsilon_spec (key i Gq)⟩
  obtain⟨f,hf⟩:=ex;refine⟨rfl, .sl len ((b₇ len).map fun i=>(f i).1),⟨(b₇ len).map fun i=>(f i).1,sm,fun x hx=>?_,by simpa using hlen⟩,?_,?_⟩
  ·obtain⟨i,hi,rfl⟩:=a₈.1 hx;exact(hf i (c₀.1 hi)).1
  case refine_3=>
   have hb:=y5 (fun i=>(f i).1) D (b₇ len) fun i hi=>(hf i (c₀.1 hi)).2.2.2.2
   simp only [MV.bulk,Rows.uptoBulk];omega
  ·obtain⟨b,o,spot⟩:=a;have Gn: ∀p∈(b₇ len).map fun i=>(f i).2,p.length=n:=fun p hp=>by
    obtain⟨i,hi,rfl⟩:=a₈.1 hp;exact(hf i (c₀.1 hi)).2.2.1
   refine .sl _ cap n ((b₇ len).map fun i=>(f i).2) sm sm Gn (fun h=>nomatch h) hle (fun h0=>?_) fun j m p hm hp=>?_
   ·have Xt:spot=none:=by
     obtain⟨_,_,hl,uE,_⟩:=hf 0 om;have hv:(f 0).2[0]? =some ((f 0).2[0]'om):=List.getElem?_eq_getElem om;have sJ:=uE 0 _ hv;have e0:(⟨b,o,spot⟩:Addr).add (0 * n + 0)=⟨b,o,spot⟩:=by simp [Addr.add]
     rw [e0] at sJ;simpa using World.cell?_spot sJ
    subst Xt;refine⟨b,o,rfl,fun j u hj=>?_⟩;have xX:=(b₄.1 hj).1;rw [aU Gn] at xX;simp at xX;obtain⟨i,k,hk,Zr⟩: ∃i k,k < n∧j=i * n + k:=⟨j / n,j % n,Nat.mod_lt _ lT,by rw [e₅];exact(f₉ j n).symm⟩
    have Gq:i < len:=by
     rcases c₇ i len with h | h
     ·exact h
     ·have:=c₉ n h;omega
    have d0a:(f i).2[k]? =some u:=by
     have hl:=(hf i Gq).2.2.1;have hp:((b₇ len).map fun i=>(f i).2)[i]? =some (f i).2:=by simp [Gq]
     have h2:((b₇ len).map fun i=>(f i).2).flatten[i * n + k]? =(f i).2[k]? :=by
      have VR:=cK hp;have ib:(((b₇ len).map fun i=>(f i).2).take i).flatten.length=i * n:=by
       rw [aU fun p hp=>Gn p (List.mem_of_mem_take hp)];rw [f₂,f₈,e₈,Nat.min_eq_left (Nat.le_of_lt Gq)]
      rw [VR,b₉,List.getElem?_append_right om,ib,show i * n + k - i * n=k by omega,List.getElem?_append_left om]
     rw [← h2,← Zr];exact hj
    have:=(hf i Gq).2.2.2.1 k u d0a;rw [Addr.add_mid] at this;have Bu:W.cell? ⟨b,o + j,none⟩=some u:=by rw [Zr];exact this
    exact⟨Bu,World.block_lt_of_cell? W _ Bu⟩
   ·rw [List.getElem?_map] at hm hp;cases hj:(b₇ len)[j]? with
    | none=>rw [hj] at hm;cases hm
    | some i=>
     rw [hj] at hm hp;injection hm with hm
     injection hp with hp
     subst hm;subst hp;have hi:i < len:=by
      have:=c₀.1 (List.mem_of_getElem? hj);exact this
     exact(hf i hi).2.1
theorem te {α:Type} {f:α→MV} {R:α→Prop}: ∀(l:List MV),(∀x∈l,∃a,x=f a∧R a)→∃us:List α,l=us.map f∧∀a∈us,R a
 | [],_=>⟨[],rfl,sm⟩
 | x :: l,h=>by
  obtain⟨a,e,hr⟩:=h x sm
  obtain⟨us,e2,has⟩:=te l fun y hy=>h y (by simp [hy])
  refine⟨a :: us,by rw [e,e2];rfl,fun b hb=>?_⟩
  rcases b₀.1 hb with rfl | hb
  ·exact hr
  ·exact has b hb
def CE (P:Program):Nat→List Field→List (Nat×(MV→Prop))→Prop
 | _,[],[] =>True
 | o,f :: fs,q :: qs=>f.offset=o∧Opn P f.type q.1 q.2∧CE P (o + q.1) fs qs
 | _,_,_=>False
def IX:List (Nat×(MV→Prop))→Nat
 | [] =>0
 | q :: qs=>q.1 + IX qs
def AF:List (Nat×(MV→Prop))→List MV→Prop
 | [],[] =>True
 | q :: qs,m :: l=>q.2 m∧AF qs l
 | _,_=>False
theorem CE.out {H:Type} (enc:TypeId×Value→H) (W:World) (spare:Nat→Bool) (held:Bool) (fuel:Nat) (cs:List Value): ∀(fs:List Field) (qs:List (Nat×(MV→Prop))) (xs:List (DataW H×List MemPlace)) (o:Nat),CE P o fs qs→xs.length=fs.length→o + IX qs=cs.length→
  (∀(i:Nat) (f:Field),fs[i]? =some f→DataW.trod enc P W 0 spare held fuel f.type ((cs.drop f.offset).take (P.cellsOf f.type))=xs[i]?)→(∀(i:Nat) (f:Field) (x:DataW H×List MemPlace),fs[i]? =some f→xs[i]? =some x→(x.1.weights P f.type).all (· ≤reachBytes)=true)→
  ∃(l:List MV) (parts:List (List Value)),AF qs l∧parts.length=l.length∧cs.drop o=parts.flatten∧MV.bulks l≤Rows.uptoBulkAll (xs.map (·.1))∧∀(j:Nat) m p,l[j]? =some m→parts[j]? =some p→dk W (IW W) noAdr m p
 | [],[],_,o,_,_,hs,_,_=>⟨[],[],trivial,rfl,by simp only [IX] at hs;rw [List.drop_eq_nil_of_le om];rfl,e₉ _,fun j m p h=>by simp at h⟩
 | f :: fs,q :: qs,x :: xs,o,ho,hl,hs,hx,hw=>by
  obtain⟨h1,h2,h3⟩:=ho
  have ht:=hx 0 f rfl
  rw [h1,h2.1] at ht
  obtain⟨d,p⟩:=x
  obtain⟨hlen,m,hq,hr,hb⟩:=h2.2 enc W spare held fuel _ d p ht (hw 0 f (d,p) rfl rfl)
  obtain⟨l,parts,a1,a2,a3,a5,a4⟩:=CE.out enc W spare held fuel cs fs qs xs (o + q.1) h3 (by simpa using hl) (by simp only [IX] at hs;omega) (fun i f hf=>hx (i + 1) f hf) fun i f x hf hx=>hw (i + 1) f x hf hx
  refine⟨m :: l,(cs.drop o).take q.1 :: parts,⟨hq,a1⟩,by simp [a2],?_,by simp only [b₅,MV.bulks,Rows.uptoBulkAll];omega,fun j m' p' hm hp=>?_⟩
  ·rw [List.flatten_cons,← a3,← List.drop_drop,List.take_append_drop]
  ·cases j with
   | zero=>simp at hm hp;subst hm;subst hp;exact hr
   | succ j=>exact a4 j m' p' (by simpa using hm) (by simpa using hp)
 | [],_ :: _,_,_,h,_,_,_,_=>h.elim
 | _ :: _,[],_,_,h,_,_,_,_=>h.elim
 | _ :: _,_ :: _,[],_,_,h,_,_,_=>by simp at h
theorem Opn.struct {fs:List Field} {qs:List (Nat×(MV→Prop))} (hu:P.underlying t=some (.struct fs.toArray)) (hc:P.cellsOf t=IX qs) (h:CE P 0 fs qs):Opn P t (IX qs) fun m=> ∃l,m= .st l∧AF qs l:=by
 refine⟨hc,fun {H} enc W spare held fuel cs d p h' hw=>?_⟩;obtain⟨xs,n,_,hx,hl,hlen,hf⟩:=DataW.trod_struct hu h';simp only [e₀] at hx;obtain⟨rfl,rfl⟩:=hx;simp only [DataW.weights,hu] at hw;have Xy: ∀(fs:List Field) (xs:List (DataW H×List MemPlace)),(DataW.weightsEach P (fs.map (·.type)) (xs.map (·.1))).all (· ≤reachBytes)=true→∀(i:Nat) (f:Field) (x:DataW H×List MemPlace),fs[i]? =some f→xs[i]? =some x→(x.1.weights P f.type).all (· ≤reachBytes)=true:=by
  intro fs
  induction fs with
  | nil=>intro xs _ i f x hf;simp at hf
  | cons g fs ih=>
   intro xs hw i f x hf hx;cases xs with
   | nil=>simp at hx
   | cons y xs=>
    simp only [b₅,DataW.weightsEach,f₇,a₀] at hw;cases i with
    | zero=>simp at hf hx;subst hf;subst hx;exact hw.1
    | succ i=>exact ih xs hw.2 i f x (by simpa using hf) (by simpa using hx)
 obtain⟨l,parts,a1,a2,a3,a5,a4⟩:=CE.out enc W spare held n cs fs qs xs 0 h (by simpa using hlen) (by rw [hl,hc];omega) (fun i f hi=>hf i f (by simpa using hi)) (Xy fs xs (by simpa using hw));rw [List.drop_zero] at a3;exact⟨hl.trans hc, .st l,⟨l,rfl,a1⟩,by rw [a3];exact .st parts a2 a4,by simp only [MV.bulk,Rows.uptoBulk];omega⟩
end
end
section
section
variable {Pg:Program} {T:bD} {N:Nat} {ents:List FuncId} {G:GS} {n0:Nat}
def aY (Pg:Program) (T:bD) (N:Nat) (ents:List FuncId) (G:GS) (n0:Nat) (y:Code) (Q:Exit→VK):Exit→VK:=fun e E M n=>match e with | .normal=>Rs n0 (vC Pg T N ents G n0 y Q) E M n | e=>Q e E M n
def aw (id:Nat) (Q:Exit→VK):Exit→VK:=fun e E M n=>match e with | .exit i=>(bif a₆ i id then Q .normal E M n else Q (.exit i) E M n) | e=>Q e E M n
def Lh (n0:Nat) {X:Type} (E':X→VE) (M':X→VM) (n':Nat) (I:X→Prop) (μ:X→Nat) (x:X) (Q:Exit→VK):Exit→VK:=fun e E1 M1 n1=>match e with | .normal=> ∃x',I x'∧μ x' < μ x∧iy n0 (E' x') (M' x') n' E1 M1 | e=>Q e E1 M1 n1
variable {Q:Exit→VK} {E:VE} {M:VM} {n:Nat} {x y c:Code} {id i:Nat}
theorem wo (h:vC Pg T N ents G n0 x (aY Pg T N ents G n0 y Q) E M n):vC Pg T N ents G n0 (.seq x y) Q E M n:=h
theorem wq (h:Q .normal E M n):vC Pg T N ents G n0 .skip Q E M n:=h
theorem qY {l:Nat} (h:Q .normal E M n):vC Pg T N ents G n0 (.label l) Q E M n:=h
theorem wt (h:Q (.exit id) E M n):vC Pg T N ents G n0 (.exit id) Q E M n:=h
theorem CF (h:Q .ret E M n):vC Pg T N ents G n0 .ret Q E M n:=h
theorem qZ (h:vC Pg T N ents G n0 c (aw id Q) E M n):vC Pg T N ents G n0 (.block id c) Q E M n:=h
theorem nC {l:List Oper} (h:ak Pg T N ents G (a₅ l) l (Q .normal) E M n):vC Pg T N ents G n0 (.region id (a₅ l) false) Q E M n:=h
theorem al {ops:Array Oper} (L:List (Nat×Bool)) (h:aD Pg T N ents G ops L [] (Q .normal) E M n):vC Pg T N ents G n0 (.region id ops true) Q E M n:=⟨L,h⟩
theorem ad {o:Operand} {t:Bool} (he:jL (VE.get E) o=some (.bool t)) (h1:t=true→vC Pg T N ents G n0 x Q E M n) (h2:t=false→vC Pg T N ents G n0 y Q E M n):vC Pg T N ents G n0 (.cond o x y) Q E M n:=by
 unfold vC;rw [he];exact⟨h1,h2⟩
theorem ra {o:Operand} (he:jL (VE.get E) o=some (.bool true)) (h:vC Pg T N ents G n0 x Q E M n):vC Pg T N ents G n0 (.cond o x y) Q E M n:=ad he (fun _=>h) (fun h=>a₃ h)
theorem rb {o:Operand} (he:jL (VE.get E) o=some (.bool false)) (h:vC Pg T N ents G n0 y Q E M n):vC Pg T N ents G n0 (.cond o x y) Q E M n:=ad he (fun h=>a₃ h) (fun _=>h)
theorem av (X:Type) (E':X→VE) (M':X→VM) (n':Nat) (I:X→Prop) (μ:X→Nat) (x0:X) (hI:I x0) (hm:iy n0 (E' x0) (M' x0) n' E M) (h: ∀x,I x→vC Pg T N ents G n0 c (Lh n0 E' M' n' I μ x Q) (E' x) (M' x) n'):vC Pg T N ents G n0 (.loop c) Q E M n:=⟨X,E',M',n',I,μ,⟨x0,hI,hm⟩,h⟩
theorem wu (h:vC Pg T N ents G n0 y Q E M n):aY Pg T N ents G n0 y Q .normal E M n:=Rs.go h
structure CG (n0:Nat) {X:Type} (E':X→VE) (M':X→VM) (n':X→Nat) (I:X→Prop) (Q JQ:Exit→VK):Prop where
 nrm: ∀(p:X) {E:VE} {M:VM} {n:Nat},I p→iy n0 (E' p) (M' p) (n' p) E M→JQ .normal E M n
 ret: ∀{E:VE} {M:VM} {n:Nat},Q .ret E M n→JQ .ret E M n
 ext: ∀{i:Nat} {E:VE} {M:VM} {n:Nat},Q (.exit i) E M n→JQ (.exit i) E M n
theorem wv (X:Type) (E':X→VE) (M':X→VM) (n':X→Nat) (I:X→Prop) (h1: ∀JQ:Exit→VK,CG n0 E' M' n' I Q JQ→vC Pg T N ents G n0 c JQ E M n) (h2: ∀p,I p→vC Pg T N ents G n0 y Q (E' p) (M' p) (n' p)):vC Pg T N ents G n0 c (aY Pg T N ents G n0 y Q) E M n:=
 h1 _ ⟨fun p _ _ _ hI hm=>Rs.re _ _ _ hm (h2 p hI),fun h=>h,fun h=>h⟩
theorem uY {ops:Array Oper} {l:List Oper} (X:Type) (E':X→VE) (M':X→VM) (n':X→Nat) (I:X→Prop) (h1: ∀JQ:Exit→VK,CG n0 E' M' n' I Q JQ→ak Pg T N ents G ops l (aY Pg T N ents G n0 c JQ .normal) E M n) (h2: ∀p,I p→vC Pg T N ents G n0 y Q (E' p) (M' p) (n' p)):ak Pg T N ents G ops l (aY Pg T N ents G n0 c (aY Pg T N ents G n0 y Q) .normal) E M n:=
 h1 _ ⟨fun p _ _ _ hI hm=>Rs.re _ _ _ hm (h2 p hI),fun h=>h,fun h=>h⟩
theorem rh (X:Type) (E':X→VE) (M':X→VM) (n':X→Nat) (I:X→Prop) (h1: ∀JQ:Exit→VK,CG n0 E' M' n' I Q JQ→vC Pg T N ents G n0 c (aw id JQ) E M n) (h2: ∀p,I p→vC Pg T N ents G n0 y Q (E' p) (M' p) (n' p)):vC Pg T N ents G n0 c (aw id (aY Pg T N ents G n0 y Q)) E M n:=
 h1 _ ⟨fun p _ _ _ hI hm=>Rs.re _ _ _ hm (h2 p hI),fun h=>h,fun h=>h⟩
theorem ri {X:Type} {E':X→VE} {M':X→VM} {n':X→Nat} {I:X→Prop} {JQ:Exit→VK} (hj:CG n0 E' M' n' I Q JQ) (h:Q .ret E M n):JQ .ret E M n:=hj.ret h
theorem rj {X:Type} {E':X→VE} {M':X→VM} {n':X→Nat} {I:X→Prop} {JQ:Exit→VK} (hj:CG n0 E' M' n' I Q JQ) (h:Q (.exit i) E M n):JQ (.exit i) E M n:=hj.ext h
theorem wx (h:Q (.exit i) E M n):aY Pg T N ents G n0 y Q (.exit i) E M n:=h
theorem wy (h:Q .ret E M n):aY Pg T N ents G n0 y Q .ret E M n:=h
theorem nD (h:Q .normal E M n):aw id Q .normal E M n:=h
theorem nE (h:Q .ret E M n):aw id Q .ret E M n:=h
theorem nF (hb:a₆ i id=true) (h:Q .normal E M n):aw id Q (.exit i) E M n:=by
 show(bif a₆ i id then _ else _);rw [hb];exact h
theorem nG (hb:a₆ i id=false) (h:Q (.exit i) E M n):aw id Q (.exit i) E M n:=by
 show(bif a₆ i id then _ else _);rw [hb];exact h
theorem rk {X:Type} {E':X→VE} {M':X→VM} {n':Nat} {I:X→Prop} {μ:X→Nat} {x:X} (h:Q (.exit i) E M n):Lh n0 E' M' n' I μ x Q (.exit i) E M n:=h
theorem rl {X:Type} {E':X→VE} {M':X→VM} {n':Nat} {I:X→Prop} {μ:X→Nat} {x:X} (h:Q .ret E M n):Lh n0 E' M' n' I μ x Q .ret E M n:=h
def aB (Pg:Program) (T:bD) (N:Nat) (ents:List FuncId) (G:GS) (ops:Array Oper) (o:Oper) (rest:List Oper) (K:VK) (E:VE) (M:VM) (n:Nat):Prop:=
 vR Pg T ents G o E M n fun r M n=>eY N o.dst r E fun E=>ak Pg T N ents G ops rest K E M n
def hO:Op→Bool
 | .call c=>match c.callee with
  | .value _=>false
  | _=>true
 | _=>true
variable {ops:Array Oper} {dst:Option Tmp} {d:Tmp} {op:Op} {ty:TypeId} {pos:String} {after:Array Edge} {g:Option (Nat×Bool)} {rest:List Oper} {K:VK} {r:MV} {δ:Dl} {o:Oper} {j s:Nat} {want t:Bool}
theorem GX (h:K E M n):ak Pg T N ents G ops [] K E M n:=h
theorem CH (h:aB Pg T N ents G ops ⟨dst,op,ty,pos,after,none⟩ rest K E M n):ak Pg T N ents G ops (⟨dst,op,ty,pos,after,none⟩ :: rest) K E M n:=Rt.go h
theorem ag (hs:(ops[j]?).bind (·.dst)=some s) (hv:VE.get E s=some (.bool t)) (h1:t=want→aB Pg T N ents G ops ⟨some d,op,ty,pos,after,some (j,want)⟩ rest K ((s, .bool want) :: E) M n) (hd:a₄ d N=true)
  (h2:t= !want→ak Pg T N ents G ops rest K ((d, .undef) :: (s, .bool (!want)) :: E) M (n + 1)):ak Pg T N ents G ops (⟨some d,op,ty,pos,after,some (j,want)⟩ :: rest) K E M n:=by
 unfold ak
 refine Rt.go ?_
 unfold Ao
 simp only [hs,hv]
 refine⟨h1,fun ht=>?_⟩
 unfold eY
 simp only [hd]
 exact h2 ht
theorem d0m (hf:(ops[j]?).bind (·.dst)=some s∧VE.get E s=some (.bool t)∧a₄ d N=true) (h1:t=want→aB Pg T N ents G ops ⟨some d,op,ty,pos,after,some (j,want)⟩ rest K ((s, .bool want) :: E) M n) (h2:t= !want→ak Pg T N ents G ops rest K ((d, .undef) :: (s, .bool (!want)) :: E) M (n + 1)):ak Pg T N ents G ops (⟨some d,op,ty,pos,after,some (j,want)⟩ :: rest) K E M n:=ag hf.1 hf.2.1 h1 hf.2.2 h2
theorem lD (hs:(ops[j]?).bind (·.dst)=some s) (hv:VE.get E s=some (.bool want)) (h:aB Pg T N ents G ops ⟨dst,op,ty,pos,after,some (j,want)⟩ rest K ((s, .bool want) :: E) M n):ak Pg T N ents G ops (⟨dst,op,ty,pos,after,some (j,want)⟩ :: rest) K E M n:=by
 unfold ak;refine Rt.go ?_;unfold Ao;simp only [hs,hv];exact⟨fun _=>h,fun ht=>by cases want <;> cases ht⟩
theorem nH (hs:(ops[j]?).bind (·.dst)=some s) (hv:VE.get E s=some (.bool (!want))) (hd:a₄ d N=true) (h:ak Pg T N ents G ops rest K ((d, .undef) :: (s, .bool (!want)) :: E) M (n + 1)):ak Pg T N ents G ops (⟨some d,op,ty,pos,after,some (j,want)⟩ :: rest) K E M n:=
 ag hs hv (fun ht=>by cases want <;> cases ht) hd (fun _=>h)
theorem nI (hs:(ops[j]?).bind (·.dst)=some s) (hv:VE.get E s=some .undef) (hd:a₄ d N=true) (h:ak Pg T N ents G ops rest K ((d, .undef) :: E) M (n + 1)):ak Pg T N ents G ops (⟨some d,op,ty,pos,after,some (j,want)⟩ :: rest) K E M n:=by
 unfold ak;refine Rt.go ?_;unfold Ao;simp only [hs,hv];unfold eY;simp only [hd];exact h
theorem CI {l1 l2:List Oper} (h:ak Pg T N ents G ops (o :: f₀ l1 l2) K E M n):ak Pg T N ents G ops (f₀ (o :: l1) l2) K E M n:=h
theorem wz {l2:List Oper} (h:ak Pg T N ents G ops l2 K E M n):ak Pg T N ents G ops (f₀ [] l2) K E M n:=h
theorem Li (hq:An T E ⟨dst,op,ty,pos,after,g⟩=none) (hv:hO op=true) (he: ∀R:MV×Dl→Prop,R (r,δ)→(jv Pg T (VE.get E) (VM.get M) n ⟨dst,op,ty,pos,after,g⟩).runP R)
  (h:eY N dst r E fun E=>ak Pg T N ents G ops rest K E (δ.app n M) (n + 1)):aB Pg T N ents G ops ⟨dst,op,ty,pos,after,g⟩ rest K E M n:=by
 unfold aB vR
 rw [hq]
 show Sc Pg T ents G _ E M n _
 cases op with
 | call c=>
  obtain⟨callee,args,er⟩:=c
  cases callee with
  | value f=>cases hv
  | builtin b=>exact .inl (he _ h)
  | invoke r n=>exact he _ h
 | _=>exact he _ h
theorem wA {p:Prop} {E:VE} {M:VM} {o:Oper} {K:Nat→Prop} (h:p):p∨Sb Pg E M o K:= .inl h
theorem Tk {b:Builtin} {args:Array Operand} {er:Array TypeId} {k:Nat} (hl:ta Pg E M ⟨some d, .call ⟨.builtin b,args,er⟩,ty,pos,after,g⟩=some k) (hd:a₄ d N=true) (h:ak Pg T N ents G ops rest K ((d, .int .i64 k) :: E) M (n + 1)):aB Pg T N ents G ops ⟨some d, .call ⟨.builtin b,args,er⟩,ty,pos,after,g⟩ rest K E M n:=by
 refine .inr ⟨k,hl,?_⟩;unfold eY;simp only [hd];exact h
theorem rn (hq:An T E ⟨some d,op,ty,pos,after,g⟩=none) (hv:hO op=true) (he: ∀R:MV×Dl→Prop,R (r, .none)→(jv Pg T (VE.get E) (VM.get M) n ⟨some d,op,ty,pos,after,g⟩).runP R) (hd:a₄ d N=true)
  (h:ak Pg T N ents G ops rest K ((d,r) :: E) M (n + 1)):aB Pg T N ents G ops ⟨some d,op,ty,pos,after,g⟩ rest K E M n:=by
 refine Li hq hv he ?_
 unfold eY
 simp only [hd]
 exact h
theorem aO (hq:An T E ⟨some d,op,ty,pos,after,g⟩=none) (hv:hO op=true) (he: ∀R:MV×Dl→Prop,R (r,δ)→(jv Pg T (VE.get E) (VM.get M) n ⟨some d,op,ty,pos,after,g⟩).runP R) (hd:a₄ d N=true)
  (h:ak Pg T N ents G ops rest K ((d,r) :: E) (δ.app n M) (n + 1)):aB Pg T N ents G ops ⟨some d,op,ty,pos,after,g⟩ rest K E M n:=by
 refine Li hq hv he ?_
 unfold eY
 simp only [hd]
 exact h
theorem tf (hq:An T E ⟨none,op,ty,pos,after,g⟩=none) (hv:hO op=true) (he: ∀R:MV×Dl→Prop,R (r,δ)→(jv Pg T (VE.get E) (VM.get M) n ⟨none,op,ty,pos,after,g⟩).runP R)
  (h:ak Pg T N ents G ops rest K E (δ.app n M) (n + 1)):aB Pg T N ents G ops ⟨none,op,ty,pos,after,g⟩ rest K E M n:=Li hq hv he h
theorem Lj {k:Nat} {neg:Bool} (hq:An T E ⟨some d,op,ty,pos,after,g⟩=some (k,neg)) (hd:a₄ d N=true) (h: ∀b:Bool,(b=true→k=0)→ak Pg T N ents G ops rest K ((d, .bool (bif neg then !b else b)) :: E) M (n + 1)):aB Pg T N ents G ops ⟨some d,op,ty,pos,after,g⟩ rest K E M n:=by
 unfold aB vR;rw [hq];intro b hb;unfold eY;simp only [hd];have:=h b hb;cases neg <;> exact this
section
variable {f:Operand} {args:Array Operand} {er:Array TypeId} {f0:FuncId} {vs:List MV} {bs:List (Nat×Nat)} {res:MV}
theorem YS (hd: ∀d,dst=some d→a₄ d N=true) (h1: ∀R:FuncId×List MV×List (Nat×Nat)→Prop,R (f0,vs,bs)→(ud E M f args.toList).runP R) (h2:ents.contains f0=true) (hc:aE Pg G f0 vs res)
  (h:ak Pg T N ents G ops rest K (match dst with | some d=>(d,res) :: E | none=>E) (VM.bump M bs) (n + 1)):aB Pg T N ents G ops ⟨dst, .call ⟨.value f,args,er⟩,ty,pos,after,g⟩ rest K E M n:=by
 show(yh Pg T ents G _ E M n _)∨_
 refine .inl ?_
 show(ud E M f args.toList).runP _
 refine h1 _ ?_
 show(match ents.contains f0 with | true=> ∃res,aE Pg G f0 vs res∧_ | false=>False)
 rw [h2]
 refine⟨res,hc,?_⟩
 unfold eY
 cases dst with
 | none=>exact h
 | some d=>
  simp only [hd d rfl]
  exact h
theorem Pk (hd: ∀d,dst=some d→a₄ d N=true) (h1: ∀R:FuncId×List MV→Prop,R (f0,vs)→(eI E f args.toList).runP R) (h2:ents.contains f0=true) {bC:List MV} {M0:VM} {n0:Nat} {M1:VM} {n1:Nat} (hc:aT Pg G f0 bC M0 n0 res M1 n1) (σ bs:List (Nat×Nat))
  (hm:fg 0 bC M0 n0 vs M σ bs) (h3:jj M σ=true) (h4:M1.all (fun x=>a₄ x.1 n1)=true) (h:ak Pg T N ents G ops rest K (match dst with | some d=>(d,dJ (ug n σ) res) :: E | none=>E) (kU (ug n σ) M1 ++ jw (VM.bump M bs) σ) (n + n1)) :
  aB Pg T N ents G ops ⟨dst, .call ⟨.value f,args,er⟩,ty,pos,after,g⟩ rest K E M n:=by
 show(yh Pg T ents G _ E M n _)∨(eI E f args.toList).runP _
 refine .inr (h1 _ ?_)
 show(match ents.contains f0 with | true=>kc Pg G vQ M n f0 vs _ | false=>kc Pg G Ca M n f0 vs _)
 rw [h2]
 refine⟨bC,M0,n0,fun r M' n'=>r=res∧M'=M1∧n'=n1,Cb (fun h k=>h.mono k) hc ⟨rfl,rfl,rfl⟩,σ,bs,hm,h3,?_⟩
 rintro _ _ _ ⟨rfl,rfl,rfl⟩
 refine⟨h4,?_⟩
 unfold eY
 cases dst with
 | none=>exact h
 | some d=>
  simp only [hd d rfl]
  exact h
theorem Pm (hd: ∀d,dst=some d→a₄ d N=true) (h1: ∀R:FuncId×List MV→Prop,R (f0,vs)→(eI E f args.toList).runP R) (h2:ents.contains f0=false) {bC:List MV} {M0:VM} {n0:Nat} {M1:VM} {n1:Nat} (hc:Th Pg G f0 bC M0 n0 res M1 n1) (σ bs:List (Nat×Nat))
  (hm:fg 0 bC M0 n0 vs M σ bs) (h3:jj M σ=true) (h4:M1.all (fun x=>a₄ x.1 n1)=true) (h:ak Pg T N ents G ops rest K (match dst with | some d=>(d,dJ (ug n σ) res) :: E | none=>E) (kU (ug n σ) M1 ++ jw (VM.bump M bs) σ) (n + n1)) :
  aB Pg T N ents G ops ⟨dst, .call ⟨.value f,args,er⟩,ty,pos,after,g⟩ rest K E M n:=by
 show(yh Pg T ents G _ E M n _)∨(eI E f args.toList).runP _
 refine .inr (h1 _ ?_)
 show(match ents.contains f0 with | true=>kc Pg G vQ M n f0 vs _ | false=>kc Pg G Ca M n f0 vs _)
 rw [h2]
 refine⟨bC,M0,n0,fun r M' n'=>r=res∧M'=M1∧n'=n1,Cb (fun h k=>h.mono k) hc ⟨rfl,rfl,rfl⟩,σ,bs,hm,h3,?_⟩
 rintro _ _ _ ⟨rfl,rfl,rfl⟩
 refine⟨h4,?_⟩
 unfold eY
 cases dst with
 | none=>exact h
 | some d=>
  simp only [hd d rfl]
  exact h
end
def OC (T:bD) (N:Nat) (E:VE) (o:Oper):Bool:=(match An T E o with | none=>true | some _=>false) && (hO o.op && (match o.dst with | some d=>a₄ d N | none=>true))
theorem iB (h:OC T N E o=true):An T E o=none∧hO o.op=true∧∀d,o.dst=some d→a₄ d N=true:=by
 unfold OC at h;simp only [a₀] at h;obtain⟨h1,h2,h3⟩:=h;refine⟨?_,h2,fun d hd=>?_⟩
 ·split at h1
  ·assumption
  ·cases h1
 ·rw [hd] at h3;exact h3
theorem y7 (hb:OC T N E ⟨some d,op,ty,pos,after,none⟩=true) (he: ∀R:MV×Dl→Prop,R (r, .none)→(jv Pg T (VE.get E) (VM.get M) n ⟨some d,op,ty,pos,after,none⟩).runP R) (h:ak Pg T N ents G ops rest K ((d,r) :: E) M (n + 1)):ak Pg T N ents G ops (⟨some d,op,ty,pos,after,none⟩ :: rest) K E M n:=
 CH (rn (iB hb).1 (iB hb).2.1 he ((iB hb).2.2 d rfl) h)
theorem wB (hb:OC T N E ⟨some d,op,ty,pos,after,none⟩=true) (he: ∀R:MV×Dl→Prop,R (r,δ)→(jv Pg T (VE.get E) (VM.get M) n ⟨some d,op,ty,pos,after,none⟩).runP R) (h:ak Pg T N ents G ops rest K ((d,r) :: E) (δ.app n M) (n + 1)):ak Pg T N ents G ops (⟨some d,op,ty,pos,after,none⟩ :: rest) K E M n:=
 CH (aO (iB hb).1 (iB hb).2.1 he ((iB hb).2.2 d rfl) h)
theorem tg (hb:OC T N E ⟨none,op,ty,pos,after,none⟩=true) (he: ∀R:MV×Dl→Prop,R (r,δ)→(jv Pg T (VE.get E) (VM.get M) n ⟨none,op,ty,pos,after,none⟩).runP R) (h:ak Pg T N ents G ops rest K E (δ.app n M) (n + 1)):ak Pg T N ents G ops (⟨none,op,ty,pos,after,none⟩ :: rest) K E M n:=
 CH (tf (iB hb).1 (iB hb).2.1 he h)
theorem wC (hs:(ops[j]?).bind (·.dst)=some s) (hv:VE.get E s=some (.bool want)) (hb:OC T N ((s, .bool want) :: E) ⟨some d,op,ty,pos,after,some (j,want)⟩=true) (he: ∀R:MV×Dl→Prop,R (r, .none)→(jv Pg T (VE.get ((s, .bool want) :: E)) (VM.get M) n ⟨some d,op,ty,pos,after,some (j,want)⟩).runP R)
  (h:ak Pg T N ents G ops rest K ((d,r) :: (s, .bool want) :: E) M (n + 1)):ak Pg T N ents G ops (⟨some d,op,ty,pos,after,some (j,want)⟩ :: rest) K E M n:=
 lD hs hv (rn (iB hb).1 (iB hb).2.1 he ((iB hb).2.2 d rfl) h)
theorem wD {l:List Oper} (h:ak Pg T N ents G (a₅ l) l (aY Pg T N ents G n0 y Q .normal) E M n):vC Pg T N ents G n0 (.seq (.region id (a₅ l) false) y) Q E M n:=h
theorem AG (h:vC Pg T N ents G n0 y Q E M n):ak Pg T N ents G ops [] (aY Pg T N ents G n0 y Q .normal) E M n:=Rs.go h
section
variable {f:Operand} {args:Array Operand} {er:Array TypeId} {f0:FuncId} {vs:List MV} {bs:List (Nat×Nat)} {res:MV}
theorem bF (hd:a₄ d N=true) (h1: ∀R:FuncId×List MV→Prop,R (f0,vs)→(eI E f args.toList).runP R) (h2:ents.contains f0=true) {bC:List MV} {M0:VM} {n0:Nat} {M1:VM} {n1:Nat} (hc:aT Pg G f0 bC M0 n0 res M1 n1) (σ bs:List (Nat×Nat))
  (hm:fg 0 bC M0 n0 vs M σ bs) (h3:jj M σ=true) (h4:M1.all (fun x=>a₄ x.1 n1)=true) (h:ak Pg T N ents G ops rest K ((d,dJ (ug n σ) res) :: E) (kU (ug n σ) M1 ++ jw (VM.bump M bs) σ) (n + n1)) :
  aB Pg T N ents G ops ⟨some d, .call ⟨.value f,args,er⟩,ty,pos,after,g⟩ rest K E M n:=Pk (fun d' e=>by injection e with e;subst e;exact hd) h1 h2 hc σ bs hm h3 h4 h
theorem wE (hd:a₄ d N=true) (h1: ∀R:FuncId×List MV→Prop,R (f0,vs)→(eI E f args.toList).runP R) (h2:ents.contains f0=true) {bC:List MV} {M0:VM} {n0:Nat} {Φ:MV→VM→Nat→Prop} (hc:vQ Pg G f0 bC M0 n0 Φ) (σ bs:List (Nat×Nat))
  (hm:fg 0 bC M0 n0 vs M σ bs) (h3:jj M σ=true) (h: ∀(res:MV) (M1:VM) (n1:Nat),Φ res M1 n1→M1.all (fun x=>a₄ x.1 n1)=true∧ak Pg T N ents G ops rest K ((d,dJ (ug n σ) res) :: E) (kU (ug n σ) M1 ++ jw (VM.bump M bs) σ) (n + n1)) :
  aB Pg T N ents G ops ⟨some d, .call ⟨.value f,args,er⟩,ty,pos,after,g⟩ rest K E M n:=by
 show(yh Pg T ents G _ E M n _)∨(eI E f args.toList).runP _
 refine .inr (h1 _ ?_)
 show(match ents.contains f0 with | true=>kc Pg G vQ M n f0 vs _ | false=>kc Pg G Ca M n f0 vs _)
 rw [h2]
 refine⟨bC,M0,n0,Φ,hc,σ,bs,hm,h3,fun r M' n' hΦ=>⟨(h r M' n' hΦ).1,?_⟩⟩
 unfold eY
 simp only [hd]
 exact(h r M' n' hΦ).2
theorem Lk (hd:a₄ d N=true) (h1: ∀R:FuncId×List MV→Prop,R (f0,vs)→(eI E f args.toList).runP R) (h2:ents.contains f0=false) {bC:List MV} {M0:VM} {n0:Nat} {M1:VM} {n1:Nat} (hc:Th Pg G f0 bC M0 n0 res M1 n1) (σ bs:List (Nat×Nat))
  (hm:fg 0 bC M0 n0 vs M σ bs) (h3:jj M σ=true) (h4:M1.all (fun x=>a₄ x.1 n1)=true) (h:ak Pg T N ents G ops rest K ((d,dJ (ug n σ) res) :: E) (kU (ug n σ) M1 ++ jw (VM.bump M bs) σ) (n + n1)) :
  aB Pg T N ents G ops ⟨some d, .call ⟨.value f,args,er⟩,ty,pos,after,g⟩ rest K E M n:=Pm (fun d' e=>by injection e with e;subst e;exact hd) h1 h2 hc σ bs hm h3 h4 h
end
theorem qg (E':VE) (M':VM) (bs:List (Nat×Nat)) (h1:EP M bs) (h2:M'.all (fun x=>a₄ x.1 n)=true) (h3:mE (dw n []) (lU M bs) E' E) (h4:mM (dw n []) (lU M bs) M' (VM.bump M bs)) (h:ak Pg T N ents G ops (o :: rest) K E' M' n):ak Pg T N ents G ops (o :: rest) K E M n:=
 Rt.re E' M' ⟨bs,h1,h2,h3,h4⟩ h
end
end
section
section
variable {Pg:Program} {T:bD} {N:Nat} {ents:List FuncId} {G:GS} {ops:Array Oper} {dst:Option Tmp} {d:Tmp} {op:Op} {ty:TypeId} {pos:String} {after:Array Edge} {g:Option (Nat×Bool)} {K:VK} {r:MV} {δ:Dl} {o:Oper} {j s k:Nat} {want t rf:Bool}
 {E:VE} {M:VM} {n:Nat} {J:List Nat→VE→VM→Prop} {L:List (Nat×Bool)} {A:List AD} {fp:List Nat}
def aQ (Pg:Program) (T:bD) (N:Nat) (ents:List FuncId) (G:GS) (ops:Array Oper) (L:List (Nat×Bool)) (A:List AD) (K:VK) (k n:Nat) (rf:Bool):List Nat→VE→VM→Prop:=fun fp E M=>aD Pg T N ents G ops L (⟨k,n,rf,fp⟩ :: A) K E M (n + 1)
theorem CJ (ho:iA ops A.reverse=true) (h:K E M n):aD Pg T N ents G ops [] A K E M n:=⟨ho,h⟩
def wF:List Oper→Nat→Option Oper
 | [],_=>none
 | o :: _,0=>some o
 | _ :: l,k + 1=>wF l k
theorem GY: ∀(l:List Oper) (k:Nat),l[k]? =wF l k
 | [],_=>by simp [wF]
 | o :: _,0=>rfl
 | o :: l,k + 1=>by simp [wF,GY l k]
theorem mw {l:List Oper} (ho:wF l k=some o) (h:uJ Pg T N ents G (a₅ l) rf o (aQ Pg T N ents G (a₅ l) L A K k n rf) E M n):aD Pg T N ents G (a₅ l) ((k,rf) :: L) A K E M n:=by
 unfold aD;have e:(a₅ l)[k]? =some o:=by rw [← ho,← GY];simp
 simp only [e];exact h
theorem wG (h:aD Pg T N ents G ops L (⟨k,n,rf,fp⟩ :: A) K E M (n + 1)):aQ Pg T N ents G ops L A K k n rf fp E M:=h
def aJ (Pg:Program) (T:bD) (N:Nat) (ents:List FuncId) (G:GS) (rf:Bool) (o:Oper) (J:List Nat→VE→VM→Prop) (E:VE) (M:VM) (n:Nat):Prop:=qV Pg T ents G rf o E M n fun r M fp=>eY N o.dst r E fun E=>J fp E M
theorem CK (h:aJ Pg T N ents G rf ⟨dst,op,ty,pos,after,none⟩ J E M n):uJ Pg T N ents G ops rf ⟨dst,op,ty,pos,after,none⟩ J E M n:=h
theorem ez (hs:(ops[j]?).bind (·.dst)=some s) (hv:VE.get E s=some (.bool t)) (h1:t=want→aJ Pg T N ents G rf ⟨some d,op,ty,pos,after,some (j,want)⟩ J ((s, .bool want) :: E) M n) (hd:a₄ d N=true)
  (h2:t= !want→J (bif rf then [] else numsO (VE.get E) op.operands.toList) ((d, .undef) :: (s, .bool (!want)) :: E) M):uJ Pg T N ents G ops rf ⟨some d,op,ty,pos,after,some (j,want)⟩ J E M n:=by
 unfold uJ
 simp only [hs,hv]
 refine⟨h1,fun ht=>?_⟩
 unfold eY
 simp only [hd]
 exact h2 ht
theorem lE (hs:(ops[j]?).bind (·.dst)=some s) (hv:VE.get E s=some (.bool want)) (h:aJ Pg T N ents G rf ⟨dst,op,ty,pos,after,some (j,want)⟩ J ((s, .bool want) :: E) M n):uJ Pg T N ents G ops rf ⟨dst,op,ty,pos,after,some (j,want)⟩ J E M n:=by
 unfold uJ;simp only [hs,hv];exact⟨fun _=>h,fun ht=>by cases want <;> cases ht⟩
theorem nJ (hs:(ops[j]?).bind (·.dst)=some s) (hv:VE.get E s=some (.bool (!want))) (hd:a₄ d N=true) (h:J (bif rf then [] else numsO (VE.get E) op.operands.toList) ((d, .undef) :: (s, .bool (!want)) :: E) M):uJ Pg T N ents G ops rf ⟨some d,op,ty,pos,after,some (j,want)⟩ J E M n:=
 ez hs hv (fun ht=>by cases want <;> cases ht) hd (fun _=>h)
theorem nK (hs:(ops[j]?).bind (·.dst)=some s) (hv:VE.get E s=some .undef) (hd:a₄ d N=true) (h:J (bif rf then [] else numsO (VE.get E) op.operands.toList) ((d, .undef) :: E) M):uJ Pg T N ents G ops rf ⟨some d,op,ty,pos,after,some (j,want)⟩ J E M n:=by
 unfold uJ;simp only [hs,hv];unfold eY;simp only [hd];exact h
theorem Fi (hv:hO op=true) (he: ∀R:MV×Dl→Prop,R (r,δ)→(jv Pg T (VE.get E) (VM.get M) n ⟨dst,op,ty,pos,after,g⟩).runP R)
  (h:eY N dst r E fun E2=>J (numsO (VE.get E) op.operands.toList) E2 (δ.app n M)):aJ Pg T N ents G false ⟨dst,op,ty,pos,after,g⟩ J E M n:=by
 unfold aJ qV yh
 dsimp only
 cases op with
 | call c=>
  obtain⟨callee,args,er⟩:=c
  cases callee with
  | value f=>cases hv
  | builtin b=>exact he _ h
  | invoke r n=>exact he _ h
 | _=>exact he _ h
theorem qh (hv:hO op=true) (he: ∀R:MV×Dl→Prop,R (r, .none)→(jv Pg T (VE.get E) (VM.get M) n ⟨some d,op,ty,pos,after,g⟩).runP R) (hd:a₄ d N=true)
  (h:J (numsO (VE.get E) op.operands.toList) ((d,r) :: E) M):aJ Pg T N ents G false ⟨some d,op,ty,pos,after,g⟩ J E M n:=by
 refine Fi hv he ?_
 unfold eY
 simp only [hd]
 exact h
theorem bj (hv:hO op=true) (he: ∀R:MV×Dl→Prop,R (r,δ)→(jv Pg T (VE.get E) (VM.get M) n ⟨some d,op,ty,pos,after,g⟩).runP R) (hd:a₄ d N=true)
  (h:J (numsO (VE.get E) op.operands.toList) ((d,r) :: E) (δ.app n M)):aJ Pg T N ents G false ⟨some d,op,ty,pos,after,g⟩ J E M n:=by
 refine Fi hv he ?_
 unfold eY
 simp only [hd]
 exact h
theorem oS (hv:hO op=true) (he: ∀R:MV×Dl→Prop,R (r,δ)→(jv Pg T (VE.get E) (VM.get M) n ⟨none,op,ty,pos,after,g⟩).runP R)
  (h:J (numsO (VE.get E) op.operands.toList) E (δ.app n M)):aJ Pg T N ents G false ⟨none,op,ty,pos,after,g⟩ J E M n:=Fi hv he h
theorem y9 {l:List Oper} (ho:wF l k=some ⟨some d,op,ty,pos,after,none⟩) (hb:(hO op && a₄ d N)=true) (he: ∀R:MV×Dl→Prop,R (r, .none)→(jv Pg T (VE.get E) (VM.get M) n ⟨some d,op,ty,pos,after,none⟩).runP R)
  (h:aD Pg T N ents G (a₅ l) L (⟨k,n,false,numsO (VE.get E) op.operands.toList⟩ :: A) K ((d,r) :: E) M (n + 1)):aD Pg T N ents G (a₅ l) ((k,false) :: L) A K E M n:=by
 rw [a₀] at hb
 exact mw ho (CK (qh hb.1 he hb.2 h))
theorem CL {l:List Oper} (ho:wF l k=some ⟨some d,op,ty,pos,after,none⟩) (hb:(hO op && a₄ d N)=true) (he: ∀R:MV×Dl→Prop,R (r,δ)→(jv Pg T (VE.get E) (VM.get M) n ⟨some d,op,ty,pos,after,none⟩).runP R)
  (h:aD Pg T N ents G (a₅ l) L (⟨k,n,false,numsO (VE.get E) op.operands.toList⟩ :: A) K ((d,r) :: E) (δ.app n M) (n + 1)):aD Pg T N ents G (a₅ l) ((k,false) :: L) A K E M n:=by
 rw [a₀] at hb
 exact mw ho (CK (bj hb.1 he hb.2 h))
theorem ti {l:List Oper} (ho:wF l k=some ⟨none,op,ty,pos,after,none⟩) (hb:hO op=true) (he: ∀R:MV×Dl→Prop,R (r,δ)→(jv Pg T (VE.get E) (VM.get M) n ⟨none,op,ty,pos,after,none⟩).runP R)
  (h:aD Pg T N ents G (a₅ l) L (⟨k,n,false,numsO (VE.get E) op.operands.toList⟩ :: A) K E (δ.app n M) (n + 1)):aD Pg T N ents G (a₅ l) ((k,false) :: L) A K E M n:=
 mw ho (CK (oS hb he h))
theorem wH {l:List Oper} (ho:wF l k=some ⟨some d,op,ty,pos,after,some (j,want)⟩) (hs:((a₅ l)[j]?).bind (·.dst)=some s) (hv:VE.get E s=some (.bool want)) (hb:(hO op && a₄ d N)=true) (he: ∀R:MV×Dl→Prop,R (r, .none)→(jv Pg T (VE.get ((s, .bool want) :: E)) (VM.get M) n ⟨some d,op,ty,pos,after,some (j,want)⟩).runP R)
  (h:aD Pg T N ents G (a₅ l) L (⟨k,n,false,numsO (VE.get ((s, .bool want) :: E)) op.operands.toList⟩ :: A) K ((d,r) :: (s, .bool want) :: E) M (n + 1)):aD Pg T N ents G (a₅ l) ((k,false) :: L) A K E M n:=by
 rw [a₀] at hb
 exact mw ho (lE hs hv (qh hb.1 he hb.2 h))
section
variable {f:Operand} {args:Array Operand} {er:Array TypeId} {f0:FuncId} {vs:List MV} {bs:List (Nat×Nat)} {res:MV}
theorem VX (hd: ∀d,dst=some d→a₄ d N=true) (h1: ∀R:FuncId×List MV×List (Nat×Nat)→Prop,R (f0,vs,bs)→(ud E M f args.toList).runP R) (h2:ents.contains f0=true) (hc:aE Pg G f0 vs res)
  (h:J (numsO (VE.get E) (Op.call ⟨.value f,args,er⟩).operands.toList) (match dst with | some d=>(d,res) :: E | none=>E) (VM.bump M bs)):aJ Pg T N ents G false ⟨dst, .call ⟨.value f,args,er⟩,ty,pos,after,g⟩ J E M n:=by
 show(ud E M f args.toList).runP _
 refine h1 _ ?_
 show(match ents.contains f0 with | true=> ∃res,aE Pg G f0 vs res∧_ | false=>False)
 rw [h2]
 refine⟨res,hc,?_⟩
 unfold eY
 cases dst with
 | none=>exact h
 | some d=>
  simp only [hd d rfl]
  exact h
theorem Ll (hd: ∀d,dst=some d→a₄ d N=true) (h1: ∀R:FuncId×List MV→Prop,R (f0,vs)→(eI E f args.toList).runP R) (h2:ents.contains f0=true) (fp:List Nat) {bC:List MV} {M0:VM} {n0:Nat} {M1:VM} {n1:Nat} (hc:aT Pg G f0 bC M0 n0 res M1 n1) (σ bs:List (Nat×Nat))
  (hm:fg 0 bC M0 n0 vs M σ bs) (h3:jj M σ=true) (h4:GO σ n0 n1 M1=true) (h5:yi (σ.map (·.2)) fp=true) (h6:yi (bs.map (·.1)) fp=true)
  (h:J fp (match dst with | some d=>(d,dJ (kC n σ) res) :: E | none=>E) (kU (kC n σ) M1 ++ jw (VM.bump M bs) σ)):aJ Pg T N ents G true ⟨dst, .call ⟨.value f,args,er⟩,ty,pos,after,g⟩ J E M n:=by
 show(eI E f args.toList).runP _
 refine h1 _ ?_
 show(match ents.contains f0 with | true=> ∃fp,nz Pg G M n f0 vs fp _ | false=>False)
 rw [h2]
 refine⟨fp,bC,M0,n0,res,M1,n1,hc,σ,bs,hm,h3,h4,h5,h6,?_⟩
 unfold eY
 cases dst with
 | none=>exact h
 | some d=>
  simp only [hd d rfl]
  exact h
theorem de (hd:a₄ d N=true) (h1: ∀R:FuncId×List MV→Prop,R (f0,vs)→(eI E f args.toList).runP R) (h2:ents.contains f0=true) (fp:List Nat) {bC:List MV} {M0:VM} {n0:Nat} {M1:VM} {n1:Nat} (hc:aT Pg G f0 bC M0 n0 res M1 n1) (σ bs:List (Nat×Nat))
  (hm:fg 0 bC M0 n0 vs M σ bs) (h3:jj M σ=true) (h4:GO σ n0 n1 M1=true) (h5:yi (σ.map (·.2)) fp=true) (h6:yi (bs.map (·.1)) fp=true)
  (h:J fp ((d,dJ (kC n σ) res) :: E) (kU (kC n σ) M1 ++ jw (VM.bump M bs) σ)):aJ Pg T N ents G true ⟨some d, .call ⟨.value f,args,er⟩,ty,pos,after,g⟩ J E M n:=Ll (fun d' e=>by injection e with e;subst e;exact hd) h1 h2 fp hc σ bs hm h3 h4 h5 h6 h
end
end
end
section
mutual
def ek:MV→Bool
 | .tup l=>tj l
 | .undef=>true
 | m=>m.idFree
def tj:List MV→Bool
 | [] =>true
 | m :: l=>ek m && tj l
end
theorem tn {ρ:Nat→Nat}: ∀m:MV,m.idFree=true→dJ ρ m=m
 | .st l,h=>by
  have h:MV.idFrees l=true:=h
  simp only [dJ,h,cond_true]
 | .fn f l,h=>by
  have h:MV.idFrees l=true:=h
  simp only [dJ,h,cond_true]
 | .ifc t v,h=>by
  have h:MV.idFree v=true:=h
  simp only [dJ,h,cond_true]
 | .ptr ..,h=>by cases h
 | .ms ..,h=>by cases h
 | .tup ..,h=>by cases h
 | .undef,h=>by cases h
 | .mp _,h=>by cases h
 | .mpv ..,h=>by cases h
 | .int ..,_=>by simp only [dJ]
 | .bool ..,_=>by simp only [dJ]
 | .str ..,_=>by simp only [dJ]
 | .nilp,_=>by simp only [dJ]
 | .gp ..,_=>by simp only [dJ]
 | .ep ..,_=>by simp only [dJ]
 | .sl ..,_=>by simp only [dJ]
 | .nils,_=>by simp only [dJ]
 | .nilf,_=>by simp only [dJ]
 | .nili,_=>by simp only [dJ]
 | .arr ..,_=>by simp only [dJ]
mutual
theorem ke {ρ:Nat→Nat}: ∀m:MV,ek m=true→dJ ρ m=m
 | .tup l,h=>by
  simp only [ek] at h
  simp only [dJ,um l h]
 | .undef,_=>by simp only [dJ]
 | .st l,h=>tn _ (by simpa only [ek] using h)
 | .fn f l,h=>tn _ (by simpa only [ek] using h)
 | .ifc t v,h=>tn _ (by simpa only [ek] using h)
 | .ptr ..,h=>by simp only [ek] at h;cases h
 | .ms ..,h=>by simp only [ek] at h;cases h
 | .mp _,h=>by simp only [ek] at h;cases h
 | .mpv ..,h=>by simp only [ek] at h;cases h
 | .int ..,_=>by simp only [dJ]
 | .bool ..,_=>by simp only [dJ]
 | .str ..,_=>by simp only [dJ]
 | .nilp,_=>by simp only [dJ]
 | .gp ..,_=>by simp only [dJ]
 | .ep ..,_=>by simp only [dJ]
 | .sl ..,_=>by simp only [dJ]
 | .nils,_=>by simp only [dJ]
 | .nilf,_=>by simp only [dJ]
 | .nili,_=>by simp only [dJ]
 | .arr ..,_=>by simp only [dJ]
theorem um {ρ:Nat→Nat}: ∀l:List MV,tj l=true→renVs ρ l=l
 | [],_=>by simp only [renVs]
 | m :: l,h=>by
  simp only [tj,a₀] at h
  simp only [renVs,ke m h.1,um l h.2]
end
section
variable {Pg:Program} {T:bD} {N:Nat} {ents:List FuncId} {G:GS} {ops:Array Oper} {d:Tmp} {ty:TypeId} {pos:String} {after:Array Edge} {g:Option (Nat×Bool)} {rest:List Oper} {K:VK} {E:VE} {M:VM} {n:Nat}
 {f:Operand} {args:Array Operand} {er:Array TypeId} {f0:FuncId} {vs:List MV} {res:MV} {J:List Nat→VE→VM→Prop}
theorem cX (hd:a₄ d N=true) (h1: ∀R:FuncId×List MV→Prop,R (f0,vs)→(eI E f args.toList).runP R) (h2:ents.contains f0=true) {bC:List MV} (hc:aT Pg G f0 bC [] 0 res [] 0) (hf:ek res=true) (bs:List (Nat×Nat)) (hb:EP M bs)
  (hm:eZ.relVs (dw 0 []) (lU M bs) bC vs) (h:ak Pg T N ents G ops rest K ((d,res) :: E) (VM.bump M bs) n):aB Pg T N ents G ops ⟨some d, .call ⟨.value f,args,er⟩,ty,pos,after,g⟩ rest K E M n:=by
 refine bF hd h1 h2 hc [] bs ⟨rfl,hb,rfl,hm,trivial⟩ rfl rfl ?_
 rw [ke res hf]
 exact h
theorem uZ (hd:a₄ d N=true) (h1: ∀R:FuncId×List MV→Prop,R (f0,vs)→(eI E f args.toList).runP R) (h2:ents.contains f0=true) {bC:List MV} (hc:aT Pg G f0 bC [] 0 res [] 0) (hf:ek res=true)
  (hm:eZ.relVs (dw 0 []) (lU M []) bC vs) (h:ak Pg T N ents G ops rest K ((d,res) :: E) M n):aB Pg T N ents G ops ⟨some d, .call ⟨.value f,args,er⟩,ty,pos,after,g⟩ rest K E M n:=
 cX hd h1 h2 hc hf [] trivial hm h
theorem cG (hd:a₄ d N=true) (h1: ∀R:FuncId×List MV→Prop,R (f0,vs)→(eI E f args.toList).runP R) (h2:ents.contains f0=true) (fp:List Nat) {bC:List MV} (hc:aT Pg G f0 bC [] 0 res [] 0) (hf:ek res=true) (bs:List (Nat×Nat)) (hb:EP M bs)
  (hm:eZ.relVs (dw 0 []) (lU M bs) bC vs) (h6:yi (bs.map (·.1)) fp=true) (h:J fp ((d,res) :: E) (VM.bump M bs)):aJ Pg T N ents G true ⟨some d, .call ⟨.value f,args,er⟩,ty,pos,after,g⟩ J E M n:=by
 refine de hd h1 h2 fp hc [] bs ⟨rfl,hb,rfl,hm,trivial⟩ rfl rfl rfl h6 ?_
 rw [ke res hf]
 exact h
end
end
section
section
variable {Pg:Program} {T:bD} {E:VE} {M:VM} {n:Nat} {dst:Option Tmp} {t ty:TypeId} {pos:String} {after:Array Edge} {g:Option (Nat×Bool)} {R:MV×Dl→Prop} {x y:Operand} {c es k fo:Nat} {path:List Nat} {b:MB} {m m' r v:MV} {d:TD}
def IY (T:bD) (t:TypeId) (gr es:Nat) (r:MV):Bool:=match bD.find T t with | some d=>a₆ gr es && fits d r | none=>false
def Lm (T:bD) (t:TypeId) (gr es:Nat) (row:Bool) (v:MV):Bool:=match bD.find T t with | some d=>a₆ gr es && fits d v && (!row || v.idFree) | none=>false
def AH:MV→List Nat→Option MV
 | m,[] =>some m
 | .st l,i :: p=>match cE l i with
  | some m=>AH m p
  | none=>none
 | .arr _ _ l,i :: p=>match cE l i with
  | some m=>AH m p
  | none=>none
 | _,_ :: _=>none
def Pn:MV→List Nat→Nat→Bool
 | _,[],fo=>a₆ fo 0
 | .st l,i :: p,fo=>match cE l i with
  | some m=>d₁ (fV l i) fo && Pn m p (fo - fV l i)
  | none=>false
 | .arr _ es l,i :: p,fo=>match cE l i with
  | some m=>d₁ (i * es) fo && Pn m p (fo - i * es)
  | none=>false
 | _,_ :: _,_=>false
theorem nL: ∀{p:List Nat} {m:MV} {fo:Nat},Pn m p fo=true→fj m p fo=AH m p
 | [],m,fo,h=>by
  have h':a₆ fo 0=true:=by unfold Pn at h;exact h
  unfold fj AH
  rw [h']
  rfl
 | i :: p,m,fo,h=>by
  unfold Pn at h
  unfold fj AH
  split at h
  ·exact nomatch ‹i :: p= []›
  ·rename_i heq
   injection heq with h1 h2
   subst h1 h2
   dsimp only
   split at h
   ·rename_i hn
    rw [a₀] at h
    rw [hn]
    dsimp only
    rw [h.1]
    exact nL h.2
   ·exact a₃ h
  ·rename_i heq
   injection heq with h1 h2
   subst h1 h2
   dsimp only
   split at h
   ·rename_i hn
    rw [a₀] at h
    rw [hn]
    dsimp only
    rw [h.1]
    exact nL h.2
   ·exact a₃ h
  ·exact a₃ h
def CM:MV→List Nat→MV→Option MV
 | _,[],v=>some v
 | .st l,i :: p,v=>match cE l i with
  | some m=>(match CM m p v with | some m'=>some (.st (setL l i m')) | none=>none)
  | none=>none
 | .arr n es l,i :: p,v=>match cE l i with
  | some m=>(match CM m p v with | some m'=>some (.arr n es (setL l i m')) | none=>none)
  | none=>none
 | _,_ :: _,_=>none
def uo:MV→List Nat→Nat→MV→Bool
 | m,[],fo,v=>(a₆ fo 0 && a₆ v.size m.size) && OT v.isAgg m.isAgg
 | .st l,i :: p,fo,v=>match cE l i with
  | some m=>d₁ (fV l i) fo && uo m p (fo - fV l i) v
  | none=>false
 | .arr _ es l,i :: p,fo,v=>match cE l i with
  | some m=>(d₁ (i * es) fo && v.idFree) && uo m p (fo - i * es) v
  | none=>false
 | _,_ :: _,_,_=>false
theorem nM: ∀{p:List Nat} {m:MV} {fo:Nat} {v:MV},uo m p fo v=true→fk m p fo v=CM m p v
 | [],m,fo,v,h=>by
  have h':((a₆ fo 0 && a₆ v.size m.size) && OT v.isAgg m.isAgg)=true:=by unfold uo at h;exact h
  rw [a₀] at h'
  unfold fk CM
  rw [h'.1]
  have h2:=h'.2
  generalize v.isAgg=a at *
  generalize m.isAgg=b at *
  cases a <;> cases b <;> first | rfl | exact a₃ h2
 | i :: p,m,fo,v,h=>by
  unfold uo at h
  unfold fk CM
  split at h
  ·exact nomatch ‹i :: p= []›
  ·rename_i heq
   injection heq with h1 h2
   subst h1 h2
   dsimp only
   split at h
   ·rename_i hn
    rw [a₀] at h
    rw [hn]
    dsimp only
    rw [h.1,nM h.2]
    rfl
   ·exact a₃ h
  ·rename_i heq
   injection heq with h1 h2
   subst h1 h2
   dsimp only
   split at h
   ·rename_i hn
    rw [a₀] at h
    rw [hn]
    dsimp only
    rw [h.1,nM h.2]
    rfl
   ·exact a₃ h
  ·exact a₃ h
theorem AI (hp:jL (VE.get E) x=some (.ptr c es k fo path)) (hc:VM.get M c=some b) (hm:cE b.l k=some m) (hr:fj m path fo=some r) (hk:IY T t b.es es r=true) (hR:R (r, .none)):(jv Pg T (VE.get E) (VM.get M) n ⟨dst, .load t x,ty,pos,after,g⟩).runP R:=by
 show(rd (VE.get E) x fun p=>iv T (VM.get M) t p).runP R
 unfold rd;rw [hp];unfold IY at hk
 show(iv T (VM.get M) t (.ptr c es k fo path)).runP R
 unfold iv;cases ht:bD.find T t with
 | none=>rw [ht] at hk;exact a₃ hk
 | some d=>
  rw [ht] at hk;simp only [a₀] at hk;simp only [hc,hk.1,cond_true];refine⟨m,hm,r,hr,?_⟩;simp only [hk.2,cond_true];exact hR
theorem wI (hp:jL (VE.get E) x=some (.ptr c es k fo path)) (hy:jL (VE.get E) y=some v) (hc:VM.get M c=some b) (hpe:b.pe≤k) (hm:cE b.l k=some m) (hs:fk m path fo v=some m') (hk:Lm T t b.es es b.row v=true) (hR:R (.undef, .upd c (setL b.l k m'))):(jv Pg T (VE.get E) (VM.get M) n ⟨dst, .store t x y,ty,pos,after,g⟩).runP R:=by
 show(rd (VE.get E) x fun p=>rd (VE.get E) y fun v=>gK T (VM.get M) t p v).runP R
 unfold rd;rw [hp];dsimp only;rw [hy];unfold Lm at hk
 show(gK T (VM.get M) t (.ptr c es k fo path) v).runP R
 unfold gK;cases ht:bD.find T t with
 | none=>rw [ht] at hk;exact a₃ hk
 | some d=>
  rw [ht] at hk;simp only [hc];have aC:(a₆ b.es es && fits d v && (!b.row || v.idFree))=true:=hk;rw [aC];exact⟨hpe,m,hm,m',hs,_,rfl,hR⟩
theorem wJ (hx:jL (VE.get E) x=some v) (ht:bD.find T t=some d) (hk:fits d v=true) (hR:R (.ptr n d.size 0 0 [], .new ⟨t,d.size,false,0,[v]⟩)):(jv Pg T (VE.get E) (VM.get M) n ⟨dst, .box t x,ty,pos,after,g⟩).runP R:=by
 show(rd (VE.get E) x fun v=>BR T n t v).runP R
 unfold rd;rw [hx]
 show(BR T n t v).runP R
 unfold BR;rw [ht];simp only [hk,cond_true];exact hR
theorem nN (ht:bD.find T t=some d) (hz:jf T 9 t=some v) (hk:fits d v=true) (hR:R (.ptr n d.size 0 0 [], .new ⟨t,d.size,false,0,[v]⟩)):(jv Pg T (VE.get E) (VM.get M) n ⟨dst, .alloc t,ty,pos,after,g⟩).runP R:=by
 show(lZ T n t).runP R
 unfold lZ;rw [ht,hz];simp only [hk,cond_true];exact hR
theorem nO (hp:jL (VE.get E) x=some (.ptr c es k fo path)) (hc:VM.get M c=some b) (hm:cE b.l k=some m) (hr:AH m path=some r) (hk:(IY T t b.es es r && Pn m path fo)=true) (hR:R (r, .none)):(jv Pg T (VE.get E) (VM.get M) n ⟨dst, .load t x,ty,pos,after,g⟩).runP R:=by
 rw [a₀] at hk;exact AI hp hc hm ((nL hk.2).trans hr) hk.1 hR
theorem oT (hp:jL (VE.get E) x=some (.ptr c es k fo path)) (hy:jL (VE.get E) y=some v) (hc:VM.get M c=some b) (hpe:b.pe≤k) (hm:cE b.l k=some m) (hs:CM m path v=some m') (hk:(Lm T t b.es es b.row v && uo m path fo v)=true) (hR:R (.undef, .upd c (setL b.l k m'))):(jv Pg T (VE.get E) (VM.get M) n ⟨dst, .store t x y,ty,pos,after,g⟩).runP R:=by
 rw [a₀] at hk;exact wI hp hy hc hpe hm ((nM hk.2).trans hs) hk.1 hR
variable {N:Nat} {ents:List FuncId} {G:GS} {ops:Array Oper} {rest:List Oper} {K:VK} {dd:Tmp}
theorem wK (hp:jL (VE.get E) x=some (.ptr c es k fo path)) (hc:VM.get M c=some b) (hm:cE b.l k=some m) (hr:AH m path=some r) (hk:((OC T N E ⟨some dd, .load t x,ty,pos,after,none⟩ && IY T t b.es es r) && Pn m path fo)=true) (h:ak Pg T N ents G ops rest K ((dd,r) :: E) M (n + 1)):ak Pg T N ents G ops (⟨some dd, .load t x,ty,pos,after,none⟩ :: rest) K E M n:=by
 rw [a₀,a₀] at hk;exact y7 hk.1.1 (fun R hR=>AI hp hc hm ((nL hk.2).trans hr) hk.1.2 hR) h
theorem rq (hp:jL (VE.get E) x=some (.ptr c es k fo path)) (hy:jL (VE.get E) y=some v) (hc:VM.get M c=some b) (hpe:b.pe≤k) (hm:cE b.l k=some m) (hs:CM m path v=some m') (hk:((OC T N E ⟨none, .store t x y,ty,pos,after,none⟩ && Lm T t b.es es b.row v) && uo m path fo v)=true) (h:ak Pg T N ents G ops rest K E (Dl.app n (.upd c (setL b.l k m')) M) (n + 1)):ak Pg T N ents G ops (⟨none, .store t x y,ty,pos,after,none⟩ :: rest) K E M n:=by
 rw [a₀,a₀] at hk;exact tg hk.1.1 (fun R hR=>wI hp hy hc hpe hm ((nM hk.2).trans hs) hk.1.2 hR) h
theorem wL {l:List Oper} {q:Nat} {L:List (Nat×Bool)} {A:List AD} (ho:wF l q=some ⟨some dd, .load t x,ty,pos,after,none⟩) (hp:jL (VE.get E) x=some (.ptr c es k fo path)) (hc:VM.get M c=some b) (hm:cE b.l k=some m) (hr:AH m path=some r) (hk:((a₄ dd N && IY T t b.es es r) && Pn m path fo)=true) (h:aD Pg T N ents G (a₅ l) L (⟨q,n,false,numsO (VE.get E) (Op.load t x).operands.toList⟩ :: A) K ((dd,r) :: E) M (n + 1)):aD Pg T N ents G (a₅ l) ((q,false) :: L) A K E M n:=by
 rw [a₀,a₀] at hk;exact y9 ho (by rw [show hO (Op.load t x)=true from rfl,Bool.true_and];exact hk.1.1) (fun R hR=>AI hp hc hm ((nL hk.2).trans hr) hk.1.2 hR) h
theorem rr {l:List Oper} {q:Nat} {L:List (Nat×Bool)} {A:List AD} (ho:wF l q=some ⟨none, .store t x y,ty,pos,after,none⟩) (hp:jL (VE.get E) x=some (.ptr c es k fo path)) (hy:jL (VE.get E) y=some v) (hc:VM.get M c=some b) (hpe:b.pe≤k) (hm:cE b.l k=some m) (hs:CM m path v=some m') (hk:(Lm T t b.es es b.row v && uo m path fo v)=true) (h:aD Pg T N ents G (a₅ l) L (⟨q,n,false,numsO (VE.get E) (Op.store t x y).operands.toList⟩ :: A) K E (Dl.app n (.upd c (setL b.l k m')) M) (n + 1)):aD Pg T N ents G (a₅ l) ((q,false) :: L) A K E M n:=by
 rw [a₀] at hk;exact ti ho rfl (fun R hR=>wI hp hy hc hpe hm ((nM hk.2).trans hs) hk.1 hR) h
theorem CN (hx:jL (VE.get E) x=some v) (ht:bD.find T t=some d) (hk:(OC T N E ⟨some dd, .box t x,ty,pos,after,none⟩ && fits d v)=true) (h:ak Pg T N ents G ops rest K ((dd, .ptr n d.size 0 0 []) :: E) (Dl.app n (.new ⟨t,d.size,false,0,[v]⟩) M) (n + 1)):ak Pg T N ents G ops (⟨some dd, .box t x,ty,pos,after,none⟩ :: rest) K E M n:=by
 rw [a₀] at hk;exact wB hk.1 (fun R hR=>wJ hx ht hk.2 hR) h
theorem ru (ht:bD.find T t=some d) (hz:jf T 9 t=some v) (hk:(OC T N E ⟨some dd, .alloc t,ty,pos,after,none⟩ && fits d v)=true) (h:ak Pg T N ents G ops rest K ((dd, .ptr n d.size 0 0 []) :: E) (Dl.app n (.new ⟨t,d.size,false,0,[v]⟩) M) (n + 1)):ak Pg T N ents G ops (⟨some dd, .alloc t,ty,pos,after,none⟩ :: rest) K E M n:=by
 rw [a₀] at hk;exact wB hk.1 (fun R hR=>nN ht hz hk.2 hR) h
end
section
mutual
def IZ:MV→Bool
 | .int _ _=>true
 | .bool _=>true
 | .str _=>true
 | .nilp=>true
 | .arr .. =>true
 | .sl .. =>true
 | .st l=>rz l
 | _=>false
def rz:List MV→Bool
 | [] =>true
 | m :: l=>bif IZ m then rz l else false
end
mutual
theorem Po {M:FM}: ∀{v:MV} {K:MV×List (Nat×Nat)→Prop},IZ v=true→K (v,[])→(dO M v).runP K
 | .int _ _,_,_,h=>h
 | .bool _,_,_,h=>h
 | .str _,_,_,h=>h
 | .nilp,_,_,h=>h
 | .nilf,_,hc,_=>a₃ hc
 | .nili,_,hc,_=>a₃ hc
 | .arr ..,_,_,h=>h
 | .sl ..,_,_,h=>h
 | .st l,_,hc,h=>wN (v:=l) hc h
 | .nils,_,hc,_=>a₃ hc
 | .ptr ..,_,hc,_=>a₃ hc
 | .gp ..,_,hc,_=>a₃ hc
 | .ep ..,_,hc,_=>a₃ hc
 | .ms ..,_,hc,_=>a₃ hc
 | .fn ..,_,hc,_=>a₃ hc
 | .ifc ..,_,hc,_=>a₃ hc
 | .tup _,_,hc,_=>a₃ hc
 | .undef,_,hc,_=>a₃ hc
theorem wN {M:FM}: ∀{v:List MV} {K:List MV×List (Nat×Nat)→Prop},rz v=true→K (v,[])→(gN M v).runP K
 | [],_,_,h=>h
 | m :: l,_,hc,h=>by
  unfold rz at hc
  cases hm:IZ m with
  | false=>rw [hm] at hc;exact a₃ hc
  | true=>
   rw [hm] at hc
   exact Po hm (wN hc h)
end
theorem Fj {T:bD} {M:FM} {ty:TypeId} {p:MV} {K K':MV×Dl→Prop} (hk: ∀x,K x→K' x) (h:(iv T M ty p).runP K):(iv T M ty p).runP K':=by
 unfold iv at h ⊢;split at h
 ·exact h
 ·split at h
  ·split at h
   ·rename_i b _;cases hb:a₆ b.es _ with
    | false=>rw [hb] at h;exact h
    | true=>
     rw [hb] at h;obtain⟨m,hm,r,hr,h⟩:=h;refine⟨m,hm,r,hr,?_⟩;dsimp only at h ⊢;generalize fits _ r=q at *;cases q
     ·exact h
     ·exact hk _ h
   ·exact h
  ·obtain⟨r,hr,h⟩:=h;refine⟨r,hr,?_⟩;dsimp only at h ⊢;generalize fits _ r=q at *;cases q
   ·exact h
   ·exact hk _ h
  ·exact h
theorem fL {T:bD} {M:VM} {E:VE}: ∀{rs:List ResultVar} {K K':List MV→Prop},(∀v,K v→K' v)→eJ T M E rs K→eJ T M E rs K'
 | [],_,_,hk,h=>hk _ h
 | .tmp t :: l,K,K',hk,h=>by
  unfold eJ at h ⊢
  split at h
  ·exact fL (fun v hv=>hk _ hv) h
  ·exact h
 | .cell p ty :: l,K,K',hk,h=>by
  unfold eJ at h ⊢
  split at h
  ·exact Fj (fun x hx=>fL (fun v hv=>hk _ hv) hx) h
  ·exact h
theorem kO {T:bD} {rs:List ResultVar} {res:MV} {M:VM} {E:VE} {n:Nat} (vs:List MV) (hR:jl vs=res) (hc:rz vs=true) (h1:eJ T M E rs (fun v=>v=vs)):Lc T rs (fun r=>r=res) .ret E M n:=
 fL (fun v hv=>by subst hv;exact wN hc hR) h1
end
end
section
def tab:bD:= [(1, .fn),(2, .int .i64),(3, .int .i64),(4, .bool),(5, .int .u8),(6, .int .u8),(7, .struct [(0,2),(1,3),(2,4),(3,6)] 4),(8, .struct [(0,2),(1,3),(2,4),(3,6)] 4),(9, .str),(10, .str),(11, .str),(12, .int .u64),(13, .struct [(0,9),(1,12)] 2),(14, .struct [(0,9),(1,12)] 2),(15, .ptr),(16, .ptr),(17, .ptr),(18, .struct [(0,17)] 1),(19, .struct [(0,17)] 1),(20, .iface),(21, .int .i32),(22, .slice 91 3),(23, .int .u64),(24, .slice 3 1),(25, .fn),(26, .fn),(27, .fn),(28, .fn),(29, .ptr),(30, .fn),(31, .slice 22 1),(32, .struct [(0,22),(1,23)] 2),(33, .struct [(0,22),(1,23)] 2),(34, .struct [(0,33),(2,33),(4,33),(6,4),(7,23)] 8),(35, .struct [(0,33),(2,33),(4,33),(6,4),(7,23)] 8),(36, .int .i64),(38, .fn),(39, .fn),(40, .fn),(41, .slice 5 1),(42, .slice 41 1),(44, .fn),(45, .fn),(46, .fn),(47, .struct [(0,36),(1,9),(2,23),(3,23),(4,23)] 5),(48, .struct [(0,36),(1,9),(2,23),(3,23),(4,23)] 5),(49, .fn),(50, .fn),(51, .fn),(52, .fn),(53, .fn),(54, .fn),(55, .fn),(56, .slice 48 5),(58, .fn),(59, .fn),(60, .fn),(61, .fn),(62, .fn),(63, .fn),(64, .fn),(65, .struct [(0,3),(1,3),(2,3),(3,3),(4,3),(5,3),(6,4),(7,3),(8,3),(9,23),(10,3),(11,3)] 12),(66, .struct [(0,3),(1,3),(2,3),(3,3),(4,3),(5,3),(6,4),(7,3),(8,3),(9,23),(10,3),(11,3)] 12),(67, .arr 32 5 1),(68, .arr 32 5 1),(69, .struct [(0,3),(1,3),(2,68),(34,68),(66,68)] 98),(70, .struct [(0,3),(1,3),(2,68),(34,68),(66,68)] 98),(71, .slice 81 132),(72, .slice 215 41),(73, .slice 68 32),(74, .struct [(0,66),(12,35),(20,3),(21,3),(22,3),(23,72),(24,73)] 25),(75, .struct [(0,66),(12,35),(20,3),(21,3),(22,3),(23,72),(24,73)] 25),(77, .fn),(78, .struct [(0,3),(1,3),(2,3),(3,68),(35,68),(67,68),(99,68)] 131),(79, .struct [(0,3),(1,3),(2,3),(3,68),(35,68),(67,68),(99,68)] 131),(80, .struct [(0,79),(131,42)] 132),(81, .struct [(0,79),(131,42)] 132),(82, .slice 71 1),(84, .fn),(85, .fn),(86, .fn),(87, .fn),(88, .fn),(89, .slice 24 1),(90, .struct [(0,9),(1,23),(2,23)] 3),(91, .struct [(0,9),(1,23),(2,23)] 3),(93, .fn),(94, .struct [(0,9),(1,23)] 2),(95, .struct [(0,9),(1,23)] 2),(96, .slice 95 2),(97, .struct [(0,9),(1,23),(2,23),(3,23),(4,9),(5,96)] 6),(98, .struct [(0,9),(1,23),(2,23),(3,23),(4,9),(5,96)] 6),(99, .slice 9 1),(100, .slice 23 1),(101, .struct [(0,24),(1,3)] 2),(102, .struct [(0,24),(1,3)] 2),(104, .fn),(105, .fn),(106, .fn),(107, .fn),(109, .fn),(110, .fn),(112, .fn),(114, .fn),(115, .fn),(116, .fn),(117, .fn),(118, .slice 73 1),(119, .struct [(0,75),(25,70),(123,71),(124,118),(125,4),(126,81),(258,41)] 259),(120, .struct [(0,75),(25,70),(123,71),(124,118),(125,4),(126,81),(258,41)] 259),(121, .slice 160 5),(123, .fn),(124, .fn),(125, .fn),(126, .fn),(127, .fn),(128, .fn),(129, .fn),(130, .fn),(131, .fn),(132, .other),(133, .fn),(134, .struct [] 0),(137, .fn),(138, .fn),(139, .fn),(140, .fn),(141, .fn),(142, .fn),(143, .fn),(144, .fn),(145, .fn),(147, .fn),(148, .fn),(149, .fn),(150, .fn),(151, .fn),(152, .fn),(153, .fn),(154, .fn),(155, .fn),(156, .fn),(158, .fn),(159, .struct [(0,3),(1,3),(2,3),(3,3),(4,41)] 5),(160, .struct [(0,3),(1,3),(2,3),(3,3),(4,41)] 5),(161, .fn),(162, .struct [(0,36),(1,68),(33,23),(34,73),(35,73),(36,73),(37,73),(38,73),(39,42),(40,3),(41,68)] 73),(163, .struct [(0,36),(1,68),(33,23),(34,73),(35,73),(36,73),(37,73),(38,73),(39,42),(40,3),(41,68)] 73),(165, .fn),(166, .struct [(0,23),(1,4)] 2),(167, .struct [(0,23),(1,4)] 2),(168, .struct [(0,9),(1,167),(3,167),(5,167)] 7),(169, .struct [(0,9),(1,167),(3,167),(5,167)] 7),(170, .arr 12 169 7),(171, .fn),(173, .fn),(174, .fn),(175, .fn),(176, .fn),(177, .fn),(178, .int .u32),(179, .arr 8 178 1),(180, .fn),(181, .slice 183 4),(182, .struct [(0,3),(1,3),(2,23),(3,41)] 4),(183, .struct [(0,3),(1,3),(2,23),(3,41)] 4),(184, .fn),(185, .fn),(186, .fn),(187, .fn),(188, .fn),(189, .fn),(190, .int .u64),(191, .fn),(193, .fn),(194, .fn),(195, .fn),(197, .fn),(198, .fn),(199, .fn),(200, .fn),(201, .fn),(203, .fn),(205, .fn),(206, .fn),(207, .ptr),(208, .fn),(209, .fn),(210, .fn),(211, .fn),(213, .fn),(214, .struct [(0,68),(32,41),(33,9),(34,23),(35,23),(36,23),(37,3),(38,3),(39,3),(40,24)] 41),(215, .struct [(0,68),(32,41),(33,9),(34,23),(35,23),(36,23),(37,3),(38,3),(39,3),(40,24)] 41),(216, .fn),(218, .fn),(219, .fn),(220, .fn),(221, .fn),(223, .fn),(224, .fn),(225, .fn),(226, .fn),(227, .ptr),(228, .arr 12 227 1),(229, .fn),(230, .ptr),(231, .fn),(232, .fn),(233, .arr 64 178 1),(234, .fn),(235, .fn),(236, .fn),(237, .fn),(238, .int .i64),(240, .fn),(241, .fn),(242, .fn),(243, .fn),(244, .fn),(245, .fn),(247, .fn),(248, .fn),(249, .struct [(0,41)] 1),(250, .struct [(0,41)] 1),(251, .fn),(252, .fn),(253, .fn),(254, .fn),(256, .fn),(257, .fn),(258, .fn),(259, .fn),(261, .fn),(262, .arr 8 178 1),(263, .fn),(264, .struct [(0,262),(8,41),(9,3)] 10),(265, .struct [(0,262),(8,41),(9,3)] 10),(266, .fn),(267, .fn),(268, .fn),(269, .fn),(270, .arr 3 3 1),(271, .fn),(272, .arr 4 68 32),(273, .fn),(274, .fn),(275, .fn),(276, .fn),(277, .fn),(278, .fn),(280, .fn),(282, .fn),(284, .fn),(285, .fn),(286, .fn),(287, .fn),(288, .fn),(289, .fn),(290, .fn),(291, .fn),(293, .fn),(294, .fn),(295, .fn),(296, .int .u64),(297, .fn),(298, .fn),(299, .fn),(300, .fn),(302, .fn),(303, .ptr),(306, .fn),(307, .iface),(308, .iface),(309, .fn),(310, .ptr),(311, .fn),(312, .fn),(313, .fn),(314, .fn),(315, .fn),(316, .fn),(317, .fn),(318, .fn),(319, .fn),(320, .struct [(0,3),(1,23),(2,4)] 3),(321, .struct [(0,3),(1,23),(2,4)] 3),(323, .fn),(324, .fn),(326, .fn),(327, .fn),(329, .fn),(330, .fn),(331, .ptr),(332, .fn),(333, .fn),(334, .fn),(335, .arr 256 5 1),(336, .struct [(0,5),(1,5)] 2),(337, .struct [(0,5),(1,5)] 2),(338, .arr 16 337 2),(339, .ptr),(340, .fn),(341, .struct [(0,17),(1,17),(2,17),(3,9)] 4),(342, .struct [(0,17),(1,17),(2,17),(3,9)] 4),(346, .fn),(347, .int .u8),(348, .int .u8),(349, .fn),(350, .ptr),(351, .int .i32),(352, .int .i32),(353, .struct [(0,12),(1,12),(2,178),(3,347),(4,5),(5,5),(6,348),(7,349),(8,350),(9,351),(10,352)] 11),(354, .struct [(0,12),(1,12),(2,178),(3,347),(4,5),(5,5),(6,348),(7,349),(8,350),(9,351),(10,352)] 11),(355, .struct [(0,9)] 1),(356, .struct [(0,9)] 1),(357, .ptr)]
def ents:List FuncId:= [2,3,4,5,6,7,8,9,10,11,12,13,14,15,16,17,18,19,20,21,22,23,24,25,26,27,28,29,30,31,32,33,34,35,36,37,38,39,40,41,42,43,44,45,46,47,48,49,50,51,52,53,54,55,56,57,58,59,60,61,62,63,64,65,66,67,68,69,70,71,72,73,74,75,76,77,78,79,80,81,82,83,84,85,86,87,88,89,90,91,92,93,94,95,96,97,98,99,100,101,102,103,104,105,106,107,108,109,110,111,112,113,114,115,116,117,118,119,120,121,122,123,124,125,126,127,128,129,130,131,132,133,134,135,136,137,138,139,140,141,142,143,144,145,146,147,148,149,150,151,152,153,154,155,156,157,158,159,160,161,162,163,164,165,166,167,168,169,170,171,172,173,174,175,176,177,178,179,180,181,182,183,184,185,186,187,188,189,190,191,192,193,194,195,196,197,198,199,201,202,203,204,205,206,207,208,209,210,211,212,213,214,215,216,217,218,219,220,221,222,223,224,225,226,227,228,229,230,231,232,233,234,235,236,237,238,239,241,242,243,244,245,246,247,248,249,250,251,252,253,254,255,256,257,258,259,260,261,262,263,264,265,266,267,268,269,270,271,272,273,274,275,276,299]
def Tl (P:Program) (f:FuncId):Bool:=match P.funcs[f]? with | some fn=>fn.body.isSome && !(fn.name == "runtime.NumGoroutine") | none=>false
theorem wO {P:Program} {f:FuncId} (h:Tl P f=true) (args:Array Value) (w:World):(callFunc f args).run P w= .ok (.enter f args) w:=by
 unfold Tl at h;split at h
 ·rename_i fn hf;simp only [a₀,b₁] at h;obtain⟨h1,h2⟩:=h;obtain⟨c,hc⟩:=Option.isSome_iff_exists.1 h1;exact enters_of hf h2 hc args w
 ·cases h
theorem seat:Seat Tryz.prog tab ents:=⟨⟨by kernel_rfl⟩,fun f hf=>wO (b₃.1 (show ents.all (Tl Tryz.prog)=true by kernel_rfl) f hf),by kernel_rfl⟩
end
section
theorem sv {α:Type} {a b:α} (h:a=b):some a=some b:=congrArg some h
theorem iy.of {n0:Nat} {E':VE} {M':VM} {n':Nat} {E:VE} {M:VM} (σ bs:List (Nat×Nat)) (h1:mE (dw n0 σ) (lU M bs) E' E) (h2:mM (dw n0 σ) (lU M bs) M' (VM.bump M bs)) (h3:uH n0 n' σ=true) (h4:EP M bs) (h5:M'.all (fun x=>a₄ x.1 n')=true):iy n0 E' M' n' E M:=⟨σ,bs,h3,h4,h5,h1,h2⟩
theorem Pp (x n:Int) (hn:0 < n):(if x.tmod n < 0 then x.tmod n + n else x.tmod n)=x % n:=by
 rw [Int.tmod_eq_emod];have h1:=Int.emod_nonneg x (show n≠0 by omega);have h2:=Int.emod_lt_of_pos x hn;have e:(n.natAbs:Int)=n:=om;split <;> split at * <;> omega
theorem dB {l:List MV} {n k:Nat} {x:MV} (hk:k < n) (hx:l[k]? =some x):bI l n (k:Int)=some x:=by
 unfold bI;rw [if_pos om];simpa using hx
theorem cI {n k:Nat} (hk:k < n):EG n (k:Int)=some k:=by
 unfold EG;rw [if_pos om];simp
theorem bc {α:Type} (f:α→MV) (l:List α):cutL (l.map f) 0 (0 + l.length)=l.map f:=by simp [cutL,List.take_of_length_le]
theorem ai {n m k:Nat} (hb:d₁ k 4096=true) (h:n + m≤2000000000):(n + m) * k≤140737488355328∧n + m≤maxLen:=by
 have hb:=Nat.le_of_ble_eq_true hb;have:=Nat.mul_le_mul h hb;have e:maxLen=9223372036854775807:=rfl;omega
theorem rA {m k:Nat} (hb:d₁ k 4096=true) (h:m≤2000000000):m * k≤140737488355328∧m≤maxLen:=by
 have:=ai (n:=0) (m:=m) hb om;rw [Nat.zero_add] at this;exact this
def jm (l:List Int):MV:= .sl l.length (l.map (.int .i64))
theorem CO {l:List Int} {k:Nat} (hk:k < l.length):bI (l.map (MV.int .i64)) l.length (k:Int)=some (.int .i64 l[k]):=dB hk (by simp [hk])
end
section
variable {R:MV×Dl→Prop}
theorem VY {x:Int} (h:R (.bool true, .none)):R (.bool (x == x), .none):=by rw [beq_self_eq_true];exact h
theorem VZ {x:Int} (h:R (.bool false, .none)):R (.bool (x !=x), .none):=by rw [bne_self_eq_false];exact h
theorem V0 {x:List UInt8} (h:R (.bool true, .none)):R (.bool (x == x), .none):=by rw [beq_self_eq_true];exact h
theorem V1 {x:List UInt8} (h:R (.bool false, .none)):R (.bool (!(x == x)), .none):=by rw [beq_self_eq_true];exact h
theorem gz: ∀l:List UInt8,lY (u8s l)=some l
 | [] =>rfl
 | a :: l=>by
  show(if 0≤(a.toNat:Int)∧(a.toNat:Int) < 256 then(match lY (u8s l) with | some r=>some (UInt8.ofNat (Int.toNat (a.toNat:Int)) :: r) | none=>none) else none)=_
  have:=a.toNat_lt
  rw [if_pos om,gz l]
  simp
end
section
theorem w32 (n:Int):IntKind.u32.wrap n=n % 4294967296:=by
 simp only [IntKind.wrap,IntKind.bits,IntKind.signed];simp
theorem w8 (n:Int):IntKind.u8.wrap n=n % 256:=by
 simp only [IntKind.wrap,IntKind.bits,IntKind.signed];simp
theorem wu64 (n:Int):IntKind.u64.wrap n=n % 18446744073709551616:=by
 simp only [IntKind.wrap,IntKind.bits,IntKind.signed];simp
abbrev eK (x:UInt32):MV:= .int .u32 x.toNat
abbrev yt (x:UInt8):MV:= .int .u8 x.toNat
theorem fQ (n m:Nat) (h:m < 2 ^ n):(BitVec.ofInt n (m:Int)).toNat=m:=by
 rw [BitVec.toNat_ofInt];have e:((2 ^ n:Nat):Int)=(2:Int) ^ n:=sm;have:((m:Int) % ((2 ^ n:Nat):Int)).toNat=m:=by
  rw [← d₂,Int.toNat_natCast,c₅ h]
 exact this
theorem Pq (x:UInt32):x.toNat < 4294967296:=x.toNat_lt
theorem t8 (x:UInt8):x.toNat < 256:=x.toNat_lt
theorem CP (x y:UInt32):IntKind.u32.wrap ((x.toNat:Int) + (y.toNat:Int))=((x + y).toNat:Int):=by
 rw [w32,UInt32.toNat_add];omega
theorem CQ (x y:UInt32):IntKind.u32.wrap ((BitVec.ofInt IntKind.u32.bits (x.toNat:Int) &&& BitVec.ofInt IntKind.u32.bits (y.toNat:Int)).toNat:Int)=((x &&& y).toNat:Int):=by
 have h:=Pq (x &&& y);rw [BitVec.toNat_and,fQ _ _ (Pq x),fQ _ _ (Pq y),← UInt32.toNat_and,w32];omega
theorem Ln (x y:UInt32):IntKind.u32.wrap ((BitVec.ofInt IntKind.u32.bits (x.toNat:Int) ||| BitVec.ofInt IntKind.u32.bits (y.toNat:Int)).toNat:Int)=((x ||| y).toNat:Int):=by
 have h:=Pq (x ||| y);rw [BitVec.toNat_or,fQ _ _ (Pq x),fQ _ _ (Pq y),← UInt32.toNat_or,w32];omega
theorem za (x y:UInt32):IntKind.u32.wrap ((BitVec.ofInt IntKind.u32.bits (x.toNat:Int) ^^^ BitVec.ofInt IntKind.u32.bits (y.toNat:Int)).toNat:Int)=((x ^^^ y).toNat:Int):=by
 have h:=Pq (x ^^^ y);rw [BitVec.toNat_xor,fQ _ _ (Pq x),fQ _ _ (Pq y),← UInt32.toNat_xor,w32];omega
theorem CR (y:UInt32):IntKind.u32.wrap ((BitVec.ofInt IntKind.u32.bits (if IntKind.u32.signed then -1 else IntKind.u32.max) ^^^ BitVec.ofInt IntKind.u32.bits (y.toNat:Int)).toNat:Int)=((~~~y).toNat:Int):=by
 have e:(if IntKind.u32.signed then(-1:Int) else IntKind.u32.max)=(((-1:UInt32)).toNat:Int):=by rfl
 rw [e,za];have h:(-1:UInt32) ^^^ y= ~~~y:=by
  apply UInt32.toBitVec_inj.1;rw [UInt32.toBitVec_xor,UInt32.toBitVec_not];exact BitVec.allOnes_xor
 rw [h]
theorem Lo (x:UInt32) (k:Nat) (hk:k < 32):IntKind.u32.wrap ((x.toNat:Int) * 2 ^ (min (k:Int).toNat IntKind.u32.bits))=((x <<< UInt32.ofNat k).toNat:Int):=by
 have e:min (k:Int).toNat IntKind.u32.bits=k:=by simp [IntKind.bits];omega
 rw [e,w32,UInt32.toNat_shiftLeft,UInt32.toNat_ofNat',c₅ (show k < 2 ^ 32 by omega),c₅ hk,Nat.shiftLeft_eq];rw [show (x.toNat:Int) * 2 ^ k=((x.toNat * 2 ^ k:Nat):Int) by rw [Int.natCast_mul,g₀];rfl];exact(d₂ (x.toNat * 2 ^ k) 4294967296).symm
theorem wP (x:UInt32) (k:Nat) (hk:k < 32):((x.toNat:Int).fdiv (2 ^ (min (k:Int).toNat IntKind.u32.bits)))=((x >>> UInt32.ofNat k).toNat:Int):=by
 have e:min (k:Int).toNat IntKind.u32.bits=k:=by simp [IntKind.bits];omega
 rw [e,UInt32.toNat_shiftRight,UInt32.toNat_ofNat',c₅ (show k < 2 ^ 32 by omega),c₅ hk,Nat.shiftRight_eq_div_pow,d₀ _ (Int.le_of_lt (Int.pow_pos om))];rw [f₃,g₀];rfl
theorem Lp (x:UInt32) (j:Int) (h0:0≤j) (h1:j < 32):IntKind.u32.wrap ((x.toNat:Int) * 2 ^ (min j.toNat IntKind.u32.bits))=((x <<< UInt32.ofNat j.toNat).toNat:Int):=by
 have:=Lo x j.toNat om
 rwa [e₁ h0] at this
theorem Lq (x:UInt32) (j:Int) (h0:0≤j) (h1:j < 32):((x.toNat:Int).fdiv (2 ^ (min j.toNat IntKind.u32.bits)))=((x >>> UInt32.ofNat j.toNat).toNat:Int):=by
 have:=wP x j.toNat om
 rwa [e₁ h0] at this
theorem rB (x:UInt8):IntKind.u32.wrap (x.toNat:Int)=((x.toUInt32).toNat:Int):=by
 have:=t8 x;rw [w32,UInt8.toNat_toUInt32];omega
theorem jO (x:UInt32):IntKind.u8.wrap (x.toNat:Int)=((x.toUInt8).toNat:Int):=by
 rw [w8,UInt32.toNat_toUInt8];omega
end
section
structure Ki (q:Prop):Prop where
 out:q
structure aX {α:Type} (a b:α):Prop where
 out:a=b
structure aj {α:Type} (a:Option α) (b:α):Prop where
 out':a=some b
theorem aj.out {α:Type} {a:Option α} {b:α} (h:aj a b):a=some b:=h.out'
structure bH (p:Prop):Prop where
 out:p
theorem pf {p:Prop} (h:p:=by first | rfl | omega | (simp [u8s,cutL,setL,repM,List.replicate_succ',List.range_succ];done) | (simp [u8s,cutL,setL,repM];omega)):p:=h
theorem rv {p:Prop} (h:p:=by (first | exact⟨rfl,rfl⟩ | exact .inr ⟨rfl,rfl⟩ | exact .inr ⟨rfl,rfl,rfl,Nat.le_refl _,rfl⟩ | exact .inl rfl | exact .inl ⟨rfl,rfl⟩ | exact⟨_,rfl,rfl⟩ | exact .inr ⟨_,rfl,rfl⟩ | exact .inl ⟨rfl,rfl,rfl⟩ | exact⟨congrArg (MV.int _) (by omega),rfl⟩ | exact .inr ⟨rfl,rfl,rfl,Nat.le_of_eq (Nat.zero_add _),bc _ _⟩ | (refine .inr ⟨_,rfl,?_⟩;focus (first | exact⟨rfl,rfl⟩ | exact .inr ⟨rfl,rfl⟩ | exact .inr ⟨rfl,rfl,rfl,Nat.le_refl _,rfl⟩ | exact .inl rfl | exact .inl ⟨rfl,rfl⟩ | exact⟨_,rfl,rfl⟩ | exact .inr ⟨_,rfl,rfl⟩ | exact .inl ⟨rfl,rfl,rfl⟩ | exact⟨congrArg (MV.int _) (by omega),rfl⟩ | exact .inr ⟨rfl,rfl,rfl,Nat.le_of_eq (Nat.zero_add _),bc _ _⟩ | (refine .inr ⟨_,rfl,?_⟩;focus (first | exact⟨rfl,rfl⟩ | exact .inr ⟨rfl,rfl⟩ | exact .inr ⟨rfl,rfl,rfl,Nat.le_refl _,rfl⟩ | exact .inl rfl | exact .inl ⟨rfl,rfl⟩ | exact⟨_,rfl,rfl⟩ | exact .inr ⟨_,rfl,rfl⟩ | exact .inl ⟨rfl,rfl,rfl⟩ | exact⟨congrArg (MV.int _) (by omega),rfl⟩ | exact .inr ⟨rfl,rfl,rfl,Nat.le_of_eq (Nat.zero_add _),bc _ _⟩ | (refine .inr ⟨_,rfl,?_⟩;focus (first | exact⟨rfl,rfl⟩ | exact .inr ⟨rfl,rfl⟩ | exact .inr ⟨rfl,rfl,rfl,Nat.le_refl _,rfl⟩ | exact .inl rfl | exact .inl ⟨rfl,rfl⟩ | exact⟨_,rfl,rfl⟩ | exact .inr ⟨_,rfl,rfl⟩ | exact .inl ⟨rfl,rfl,rfl⟩ | exact⟨congrArg (MV.int _) (by omega),rfl⟩ | exact .inr ⟨rfl,rfl,rfl,Nat.le_of_eq (Nat.zero_add _),bc _ _⟩);done) | (refine .inr ⟨_,rfl,?_⟩;focus (repeat(first | exact trivial | (refine And.intro ?_ ?_;focus (first | exact⟨rfl,rfl⟩ | exact .inr ⟨rfl,rfl⟩ | exact .inr ⟨rfl,rfl,rfl,Nat.le_refl _,rfl⟩ | exact .inl rfl | exact .inl ⟨rfl,rfl⟩ | exact⟨_,rfl,rfl⟩ | exact .inr ⟨_,rfl,rfl⟩ | exact .inl ⟨rfl,rfl,rfl⟩ | exact⟨congrArg (MV.int _) (by omega),rfl⟩ | exact .inr ⟨rfl,rfl,rfl,Nat.le_of_eq (Nat.zero_add _),bc _ _⟩))));done));done) | (refine .inr ⟨_,rfl,?_⟩;focus (repeat(first | exact trivial | (refine And.intro ?_ ?_;focus (first | exact⟨rfl,rfl⟩ | exact .inr ⟨rfl,rfl⟩ | exact .inr ⟨rfl,rfl,rfl,Nat.le_refl _,rfl⟩ | exact .inl rfl | exact .inl ⟨rfl,rfl⟩ | exact⟨_,rfl,rfl⟩ | exact .inr ⟨_,rfl,rfl⟩ | exact .inl ⟨rfl,rfl,rfl⟩ | exact⟨congrArg (MV.int _) (by omega),rfl⟩ | exact .inr ⟨rfl,rfl,rfl,Nat.le_of_eq (Nat.zero_add _),bc _ _⟩ | (refine .inr ⟨_,rfl,?_⟩;focus (first | exact⟨rfl,rfl⟩ | exact .inr ⟨rfl,rfl⟩ | exact .inr ⟨rfl,rfl,rfl,Nat.le_refl _,rfl⟩ | exact .inl rfl | exact .inl ⟨rfl,rfl⟩ | exact⟨_,rfl,rfl⟩ | exact .inr ⟨_,rfl,rfl⟩ | exact .inl ⟨rfl,rfl,rfl⟩ | exact⟨congrArg (MV.int _) (by omega),rfl⟩ | exact .inr ⟨rfl,rfl,rfl,Nat.le_of_eq (Nat.zero_add _),bc _ _⟩);done) | (refine .inr ⟨_,rfl,?_⟩;focus (repeat(first | exact trivial | (refine And.intro ?_ ?_;focus (first | exact⟨rfl,rfl⟩ | exact .inr ⟨rfl,rfl⟩ | exact .inr ⟨rfl,rfl,rfl,Nat.le_refl _,rfl⟩ | exact .inl rfl | exact .inl ⟨rfl,rfl⟩ | exact⟨_,rfl,rfl⟩ | exact .inr ⟨_,rfl,rfl⟩ | exact .inl ⟨rfl,rfl,rfl⟩ | exact⟨congrArg (MV.int _) (by omega),rfl⟩ | exact .inr ⟨rfl,rfl,rfl,Nat.le_of_eq (Nat.zero_add _),bc _ _⟩))));done)))));done));done) | (refine .inr ⟨_,rfl,?_⟩;focus (repeat(first | exact trivial | (refine And.intro ?_ ?_;focus (first | exact⟨rfl,rfl⟩ | exact .inr ⟨rfl,rfl⟩ | exact .inr ⟨rfl,rfl,rfl,Nat.le_refl _,rfl⟩ | exact .inl rfl | exact .inl ⟨rfl,rfl⟩ | exact⟨_,rfl,rfl⟩ | exact .inr ⟨_,rfl,rfl⟩ | exact .inl ⟨rfl,rfl,rfl⟩ | exact⟨congrArg (MV.int _) (by omega),rfl⟩ | exact .inr ⟨rfl,rfl,rfl,Nat.le_of_eq (Nat.zero_add _),bc _ _⟩ | (refine .inr ⟨_,rfl,?_⟩;focus (first | exact⟨rfl,rfl⟩ | exact .inr ⟨rfl,rfl⟩ | exact .inr ⟨rfl,rfl,rfl,Nat.le_refl _,rfl⟩ | exact .inl rfl | exact .inl ⟨rfl,rfl⟩ | exact⟨_,rfl,rfl⟩ | exact .inr ⟨_,rfl,rfl⟩ | exact .inl ⟨rfl,rfl,rfl⟩ | exact⟨congrArg (MV.int _) (by omega),rfl⟩ | exact .inr ⟨rfl,rfl,rfl,Nat.le_of_eq (Nat.zero_add _),bc _ _⟩ | (refine .inr ⟨_,rfl,?_⟩;focus (first | exact⟨rfl,rfl⟩ | exact .inr ⟨rfl,rfl⟩ | exact .inr ⟨rfl,rfl,rfl,Nat.le_refl _,rfl⟩ | exact .inl rfl | exact .inl ⟨rfl,rfl⟩ | exact⟨_,rfl,rfl⟩ | exact .inr ⟨_,rfl,rfl⟩ | exact .inl ⟨rfl,rfl,rfl⟩ | exact⟨congrArg (MV.int _) (by omega),rfl⟩ | exact .inr ⟨rfl,rfl,rfl,Nat.le_of_eq (Nat.zero_add _),bc _ _⟩);done) | (refine .inr ⟨_,rfl,?_⟩;focus (repeat(first | exact trivial | (refine And.intro ?_ ?_;focus (first | exact⟨rfl,rfl⟩ | exact .inr ⟨rfl,rfl⟩ | exact .inr ⟨rfl,rfl,rfl,Nat.le_refl _,rfl⟩ | exact .inl rfl | exact .inl ⟨rfl,rfl⟩ | exact⟨_,rfl,rfl⟩ | exact .inr ⟨_,rfl,rfl⟩ | exact .inl ⟨rfl,rfl,rfl⟩ | exact⟨congrArg (MV.int _) (by omega),rfl⟩ | exact .inr ⟨rfl,rfl,rfl,Nat.le_of_eq (Nat.zero_add _),bc _ _⟩))));done));done) | (refine .inr ⟨_,rfl,?_⟩;focus (repeat(first | exact trivial | (refine And.intro ?_ ?_;focus (first | exact⟨rfl,rfl⟩ | exact .inr ⟨rfl,rfl⟩ | exact .inr ⟨rfl,rfl,rfl,Nat.le_refl _,rfl⟩ | exact .inl rfl | exact .inl ⟨rfl,rfl⟩ | exact⟨_,rfl,rfl⟩ | exact .inr ⟨_,rfl,rfl⟩ | exact .inl ⟨rfl,rfl,rfl⟩ | exact⟨congrArg (MV.int _) (by omega),rfl⟩ | exact .inr ⟨rfl,rfl,rfl,Nat.le_of_eq (Nat.zero_add _),bc _ _⟩ | (refine .inr ⟨_,rfl,?_⟩;focus (first | exact⟨rfl,rfl⟩ | exact .inr ⟨rfl,rfl⟩ | exact .inr ⟨rfl,rfl,rfl,Nat.le_refl _,rfl⟩ | exact .inl rfl | exact .inl ⟨rfl,rfl⟩ | exact⟨_,rfl,rfl⟩ | exact .inr ⟨_,rfl,rfl⟩ | exact .inl ⟨rfl,rfl,rfl⟩ | exact⟨congrArg (MV.int _) (by omega),rfl⟩ | exact .inr ⟨rfl,rfl,rfl,Nat.le_of_eq (Nat.zero_add _),bc _ _⟩);done) | (refine .inr ⟨_,rfl,?_⟩;focus (repeat(first | exact trivial | (refine And.intro ?_ ?_;focus (first | exact⟨rfl,rfl⟩ | exact .inr ⟨rfl,rfl⟩ | exact .inr ⟨rfl,rfl,rfl,Nat.le_refl _,rfl⟩ | exact .inl rfl | exact .inl ⟨rfl,rfl⟩ | exact⟨_,rfl,rfl⟩ | exact .inr ⟨_,rfl,rfl⟩ | exact .inl ⟨rfl,rfl,rfl⟩ | exact⟨congrArg (MV.int _) (by omega),rfl⟩ | exact .inr ⟨rfl,rfl,rfl,Nat.le_of_eq (Nat.zero_add _),bc _ _⟩))));done)))));done)))));done))):p:=h
theorem lm {p:Prop} (h:p:=by (repeat(first | exact trivial | refine And.intro rv ?_))):p:=h
theorem mm {p:Prop} (h:p:=by (repeat(first | exact trivial | refine⟨Nat.le_refl _,?_⟩ | refine⟨⟨_,rfl,rv⟩,?_⟩ | refine⟨.inl ⟨rfl,rfl,rfl,rfl⟩,?_⟩ | refine⟨.inr ⟨_,_,rfl,rfl,rfl,rfl, .inl rfl, .inl rfl, .inl ⟨rfl,rfl⟩⟩,?_⟩ | refine⟨.inr ⟨_,_,rfl,rfl,rfl,rfl, .inl rfl, .inl rfl, .inl ⟨(by simp [u8s]),rfl⟩⟩,?_⟩ | refine⟨.inr ⟨_,_,rfl,rfl,rfl,rfl, .inl rfl, .inr ⟨(by first | exact Nat.max_le.2 ⟨Nat.zero_le _,Nat.le_refl _⟩ | exact Nat.max_le.2 ⟨Nat.le_refl _,Nat.le_refl _⟩),(by simp [u8s])⟩, .inl ⟨rfl,rfl⟩⟩,?_⟩ | refine⟨.inr ⟨_,_,rfl,rfl,rfl,rfl, .inl rfl, .inl rfl, .inr ⟨rv,trivial⟩⟩,?_⟩ | refine⟨(show _≤_ by simp [u8s]),?_⟩ | refine⟨.inr ⟨_,_,rfl,rfl,rfl,rfl, .inr (.inl ⟨rfl,rfl,rfl,bH.out (by assumption)⟩), .inl rfl, .inl ⟨rfl,rfl⟩⟩,?_⟩))):p:=h
theorem la {p:Prop} (h:p:=by intro R hR;first | ((with_reducible apply nO);(case hp=>exact rfl);(case hc=>exact rfl);(case hm=>exact rfl);(case hr=>exact rfl);(case hk=>kernel_rfl);(case hR=>exact hR)) | ((with_reducible apply oT);(case hp=>exact rfl);(case hy=>exact rfl);(case hc=>exact rfl);(case hpe=>exact Nat.zero_le _);(case hm=>exact rfl);(case hs=>exact rfl);(case hk=>kernel_rfl);(case hR=>exact hR)) | ((with_reducible apply wJ);(case hx=>exact rfl);(case ht=>exact rfl);(case hk=>kernel_rfl);(case hR=>exact hR)) | ((with_reducible apply nN);(case ht=>exact rfl);(case hz=>exact rfl);(case hk=>kernel_rfl);(case hR=>exact hR)) | (repeat(first | exact hR | ((try conv=>whnf);first | exact hR | (with_reducible refine⟨_,sv (aX.out (by assumption)),?_⟩) | (with_reducible refine And.intro (bH.out (by assumption)) ?_) | (with_reducible refine And.intro (Nat.zero_le _) ?_) | (with_reducible refine And.intro rfl ?_) | (with_reducible refine⟨_,cI (by omega),?_⟩) | (with_reducible refine⟨fun _=>?_,fun h=>Bool.noConfusion h⟩) | (with_reducible refine⟨fun h=>Bool.noConfusion h,fun _=>?_⟩) | (with_reducible refine⟨_,sv (eX _ (by omega) (by omega)),?_⟩) | (with_reducible refine⟨_,sv (bS _ (by omega) (by omega)),?_⟩) | (with_reducible refine⟨_,sv (iu _ (by omega) (by omega)),?_⟩) | (refine⟨_,rfl,?_⟩) | (refine⟨_,aj.out (by assumption),?_⟩) | (refine And.intro (by omega) ?_))));first | done | fail):p:=h
theorem GZ {p:Prop} (h:p:=by intro R hR;first | ((with_reducible apply nO);(case hp=>exact rfl);(case hc=>exact rfl);(case hm=>exact rfl);(case hr=>exact rfl);(case hk=>kernel_rfl);(case hR=>exact hR)) | ((with_reducible apply oT);(case hp=>exact rfl);(case hy=>exact rfl);(case hc=>exact rfl);(case hpe=>exact Nat.zero_le _);(case hm=>exact rfl);(case hs=>exact rfl);(case hk=>kernel_rfl);(case hR=>exact hR)) | ((with_reducible apply wJ);(case hx=>exact rfl);(case ht=>exact rfl);(case hk=>kernel_rfl);(case hR=>exact hR)) | ((with_reducible apply nN);(case ht=>exact rfl);(case hz=>exact rfl);(case hk=>kernel_rfl);(case hR=>exact hR)) | (repeat(first | exact hR | ((try conv=>whnf);first | exact hR | (with_reducible refine⟨_,sv (aX.out (by assumption)),?_⟩) | (with_reducible refine And.intro (bH.out (by assumption)) ?_) | (with_reducible refine And.intro (Nat.zero_le _) ?_) | (with_reducible refine And.intro rfl ?_) | (with_reducible refine⟨_,sv (CP _ _),?_⟩) | (with_reducible refine⟨_,sv (za _ _),?_⟩) | (with_reducible refine⟨_,sv (CQ _ _),?_⟩) | (with_reducible refine⟨_,sv (Ln _ _),?_⟩) | (with_reducible refine⟨_,sv (CR _),?_⟩) | (with_reducible refine⟨_,sv (Lp _ _ (by omega) (by omega)),?_⟩) | (with_reducible refine⟨_,sv (Lq _ _ (by omega) (by omega)),?_⟩) | (with_reducible refine⟨_,sv (rB _),?_⟩) | (with_reducible refine⟨_,sv (jO _),?_⟩) | (with_reducible refine⟨fun _=>?_,fun h=>Bool.noConfusion h⟩) | (with_reducible refine⟨fun h=>Bool.noConfusion h,fun _=>?_⟩) | (with_reducible refine⟨_,sv (eX _ (by omega) (by omega)),?_⟩) | (with_reducible refine⟨_,sv (bS _ (by omega) (by omega)),?_⟩) | (with_reducible refine⟨_,sv (iu _ (by omega) (by omega)),?_⟩) | (refine⟨_,rfl,?_⟩) | (refine⟨_,aj.out (by assumption),?_⟩) | (refine And.intro (by omega) ?_))));first | done | fail):p:=h
theorem G0 {p:Prop} (h:p:=by intro R hR;first | ((with_reducible apply nO);(case hp=>exact rfl);(case hc=>exact rfl);(case hm=>exact rfl);(case hr=>exact rfl);(case hk=>kernel_rfl);(case hR=>exact hR)) | ((with_reducible apply oT);(case hp=>exact rfl);(case hy=>exact rfl);(case hc=>exact rfl);(case hpe=>exact Nat.zero_le _);(case hm=>exact rfl);(case hs=>exact rfl);(case hk=>kernel_rfl);(case hR=>exact hR)) | ((with_reducible apply wJ);(case hx=>exact rfl);(case ht=>exact rfl);(case hk=>kernel_rfl);(case hR=>exact hR)) | ((with_reducible apply nN);(case ht=>exact rfl);(case hz=>exact rfl);(case hk=>kernel_rfl);(case hR=>exact hR)) | (repeat((try conv=>whnf);first | (with_reducible exact VY hR) | (with_reducible exact VZ hR) | (with_reducible exact V0 hR) | (with_reducible exact V1 hR) | exact hR | (with_reducible refine⟨_,sv (aX.out (by assumption)),?_⟩) | (with_reducible refine And.intro (bH.out (by assumption)) ?_) | (with_reducible refine And.intro (Nat.zero_le _) ?_) | (with_reducible refine And.intro rfl ?_) | (with_reducible refine⟨_,cI (by omega),?_⟩) | (with_reducible refine⟨fun _=>?_,fun h=>Bool.noConfusion h⟩) | (with_reducible refine⟨fun h=>Bool.noConfusion h,fun _=>?_⟩) | (with_reducible refine⟨_,sv (eX _ (by omega) (by omega)),?_⟩) | (with_reducible refine⟨_,sv (bS _ (by omega) (by omega)),?_⟩) | (with_reducible refine⟨_,sv (iu _ (by omega) (by omega)),?_⟩) | (refine⟨_,rfl,?_⟩) | (refine⟨_,aj.out (by assumption),?_⟩) | (refine And.intro (by omega) ?_)));first | done | fail):p:=h
theorem au {p q:Prop} (h:q) (s:Ki q→p:=by intro hq;(repeat((try conv=>whnf);first | (with_reducible refine Rt.go ?_) | (with_reducible refine Rs.go ?_) | (with_reducible refine wA ?_) | (with_reducible refine And.intro (Nat.zero_le _) ?_) | (with_reducible refine And.intro rfl ?_) | (with_reducible refine⟨_,cI (by omega),?_⟩) | (with_reducible refine⟨fun _=>?_,fun h=>Bool.noConfusion h⟩) | (with_reducible refine⟨fun h=>Bool.noConfusion h,fun _=>?_⟩) | (with_reducible refine⟨_,sv (eX _ (by omega) (by omega)),?_⟩) | (with_reducible refine⟨_,sv (bS _ (by omega) (by omega)),?_⟩) | (with_reducible refine⟨_,sv (iu _ (by omega) (by omega)),?_⟩) | refine⟨_,rfl,?_⟩ | refine And.intro (show iA _ _=true by kernel_rfl) ?_ | refine And.intro (by omega) ?_));exact hq.out):p:=s ⟨h⟩
theorem aS {p q:Prop} (h:q) (s:Ki q→p:=by intro hq;(repeat((try conv=>whnf);first | (with_reducible refine Rt.go ?_) | (with_reducible refine Rs.go ?_) | (with_reducible refine wA ?_) | (with_reducible refine And.intro (Nat.zero_le _) ?_) | (with_reducible refine And.intro rfl ?_) | (with_reducible refine⟨fun _=>?_,fun h=>Bool.noConfusion h⟩) | (with_reducible refine⟨fun h=>Bool.noConfusion h,fun _=>?_⟩) | (with_reducible refine⟨_,sv (CP _ _),?_⟩) | (with_reducible refine⟨_,sv (za _ _),?_⟩) | (with_reducible refine⟨_,sv (CQ _ _),?_⟩) | (with_reducible refine⟨_,sv (Ln _ _),?_⟩) | (with_reducible refine⟨_,sv (CR _),?_⟩) | (with_reducible refine⟨_,sv (Lp _ _ (by omega) (by omega)),?_⟩) | (with_reducible refine⟨_,sv (Lq _ _ (by omega) (by omega)),?_⟩) | (with_reducible refine⟨_,sv (rB _),?_⟩) | (with_reducible refine⟨_,sv (jO _),?_⟩) | (with_reducible refine⟨_,sv (eX _ (by omega) (by omega)),?_⟩) | (with_reducible refine⟨_,sv (bS _ (by omega) (by omega)),?_⟩) | (with_reducible refine⟨_,sv (iu _ (by omega) (by omega)),?_⟩) | refine⟨_,rfl,?_⟩ | refine And.intro (show iA _ _=true by kernel_rfl) ?_ | refine And.intro (by omega) ?_));exact hq.out):p:=s ⟨h⟩
theorem aa {p q:Prop} (h:q) (s:Ki q→p:=by intro hq;(repeat(first | ((with_reducible apply wK);(case hp=>exact rfl);(case hc=>exact rfl);(case hm=>exact rfl);(case hr=>exact rfl);(case hk=>kernel_rfl)) | ((with_reducible apply rq);(case hp=>exact rfl);(case hy=>exact rfl);(case hc=>exact rfl);(case hpe=>exact Nat.zero_le _);(case hm=>exact rfl);(case hs=>exact rfl);(case hk=>kernel_rfl)) | ((with_reducible apply CN);(case hx=>exact rfl);(case ht=>exact rfl);(case hk=>kernel_rfl)) | ((with_reducible apply ru);(case ht=>exact rfl);(case hz=>exact rfl);(case hk=>kernel_rfl)) | ((with_reducible apply y7);(case hb=>exact rfl);(case he=>exact la)) | ((with_reducible apply AG)) | ((with_reducible apply wD)) | ((with_reducible apply CI)) | ((with_reducible apply wz)) | ((with_reducible apply wL);(case ho=>exact rfl);(case hp=>exact rfl);(case hc=>exact rfl);(case hm=>exact rfl);(case hr=>exact rfl);(case hk=>kernel_rfl)) | ((with_reducible apply rr);(case ho=>exact rfl);(case hp=>exact rfl);(case hy=>exact rfl);(case hc=>exact rfl);(case hpe=>exact Nat.zero_le _);(case hm=>exact rfl);(case hs=>exact rfl);(case hk=>kernel_rfl)) | ((with_reducible apply y9);(case ho=>exact rfl);(case hb=>exact rfl);(case he=>exact la)) | ((with_reducible apply CJ);(case ho=>exact (show iA _ _=true by kernel_rfl))) | ((with_reducible apply tg);(case hb=>exact rfl);(case he=>exact la)) | ((with_reducible apply wB);(case hb=>exact rfl);(case he=>exact la)) | ((with_reducible apply wC);(case hs=>exact rfl);(case hv=>exact rfl);(case hb=>exact rfl);(case he=>exact la)) | ((with_reducible apply nH);(case hs=>exact rfl);(case hv=>exact rfl);(case hd=>exact rfl)) | ((with_reducible apply nI);(case hs=>exact rfl);(case hv=>exact rfl);(case hd=>exact rfl)) | ((with_reducible apply rn);(case hq=>exact rfl);(case hv=>exact rfl);(case he=>exact la);(case hd=>exact rfl)) | ((with_reducible apply tf);(case hq=>exact rfl);(case hv=>exact rfl);(case he=>exact la)) | ((with_reducible apply aO);(case hq=>exact rfl);(case hv=>exact rfl);(case he=>exact la);(case hd=>exact rfl)) | ((with_reducible apply GX)) | ((with_reducible apply wo)) | ((with_reducible apply wu)) | ((with_reducible apply nC)) | ((with_reducible apply ra);(case he=>exact rfl)) | ((with_reducible apply rb);(case he=>exact rfl)) | ((with_reducible apply qZ)) | ((with_reducible apply wq)) | ((with_reducible apply wt)) | ((with_reducible apply CF)) | ((with_reducible apply wx)) | ((with_reducible apply wy)) | ((with_reducible apply nD)) | ((with_reducible apply nE)) | ((with_reducible apply nF);(case hb=>exact rfl)) | ((with_reducible apply nG);(case hb=>exact rfl)) | ((with_reducible apply rk)) | ((with_reducible apply rl)) | ((with_reducible apply qY)) | (with_reducible refine ri (by assumption) ?_) | (with_reducible refine rj (by assumption) ?_) | ((with_reducible apply ti);(case ho=>exact rfl);(case hb=>exact rfl);(case he=>exact la)) | ((with_reducible apply wH);(case ho=>exact rfl);(case hs=>exact rfl);(case hv=>exact rfl);(case hb=>exact rfl);(case he=>exact la)) | ((with_reducible apply CL);(case ho=>exact rfl);(case hb=>exact rfl);(case he=>exact la)) | ((with_reducible apply wG)) | ((with_reducible apply mw);(case ho=>exact rfl)) | ((with_reducible apply nJ);(case hs=>exact rfl);(case hv=>exact rfl);(case hd=>exact rfl)) | ((with_reducible apply nK);(case hs=>exact rfl);(case hv=>exact rfl);(case hd=>exact rfl)) | ((with_reducible apply lE);(case hs=>exact rfl);(case hv=>exact rfl)) | ((with_reducible apply CK)) | ((with_reducible apply qh);(case hv=>exact rfl);(case he=>exact la);(case hd=>exact rfl)) | ((with_reducible apply oS);(case hv=>exact rfl);(case he=>exact la)) | ((with_reducible apply bj);(case hv=>exact rfl);(case he=>exact la);(case hd=>exact rfl)) | ((with_reducible apply lD);(case hs=>exact rfl);(case hv=>exact rfl)) | ((with_reducible apply CH))));exact hq.out):p:=s ⟨h⟩
theorem Sd {p q:Prop} (h:q) (s:Ki q→p:=by intro hq;((first | ((with_reducible apply wK);(case hp=>exact rfl);(case hc=>exact rfl);(case hm=>exact rfl);(case hr=>exact rfl);(case hk=>kernel_rfl)) | ((with_reducible apply rq);(case hp=>exact rfl);(case hy=>exact rfl);(case hc=>exact rfl);(case hpe=>exact Nat.zero_le _);(case hm=>exact rfl);(case hs=>exact rfl);(case hk=>kernel_rfl)) | ((with_reducible apply CN);(case hx=>exact rfl);(case ht=>exact rfl);(case hk=>kernel_rfl)) | ((with_reducible apply ru);(case ht=>exact rfl);(case hz=>exact rfl);(case hk=>kernel_rfl)) | ((with_reducible apply y7);(case hb=>exact rfl);(case he=>exact la)) | ((with_reducible apply AG)) | ((with_reducible apply wD)) | ((with_reducible apply CI)) | ((with_reducible apply wz)) | ((with_reducible apply wL);(case ho=>exact rfl);(case hp=>exact rfl);(case hc=>exact rfl);(case hm=>exact rfl);(case hr=>exact rfl);(case hk=>kernel_rfl)) | ((with_reducible apply rr);(case ho=>exact rfl);(case hp=>exact rfl);(case hy=>exact rfl);(case hc=>exact rfl);(case hpe=>exact Nat.zero_le _);(case hm=>exact rfl);(case hs=>exact rfl);(case hk=>kernel_rfl)) | ((with_reducible apply y9);(case ho=>exact rfl);(case hb=>exact rfl);(case he=>exact la)) | ((with_reducible apply CJ);(case ho=>exact (show iA _ _=true by kernel_rfl))) | ((with_reducible apply tg);(case hb=>exact rfl);(case he=>exact la)) | ((with_reducible apply wB);(case hb=>exact rfl);(case he=>exact la)) | ((with_reducible apply wC);(case hs=>exact rfl);(case hv=>exact rfl);(case hb=>exact rfl);(case he=>exact la)) | ((with_reducible apply nH);(case hs=>exact rfl);(case hv=>exact rfl);(case hd=>exact rfl)) | ((with_reducible apply nI);(case hs=>exact rfl);(case hv=>exact rfl);(case hd=>exact rfl)) | ((with_reducible apply rn);(case hq=>exact rfl);(case hv=>exact rfl);(case he=>exact la);(case hd=>exact rfl)) | ((with_reducible apply tf);(case hq=>exact rfl);(case hv=>exact rfl);(case he=>exact la)) | ((with_reducible apply aO);(case hq=>exact rfl);(case hv=>exact rfl);(case he=>exact la);(case hd=>exact rfl)) | ((with_reducible apply GX)) | ((with_reducible apply wo)) | ((with_reducible apply wu)) | ((with_reducible apply nC)) | ((with_reducible apply ra);(case he=>exact rfl)) | ((with_reducible apply rb);(case he=>exact rfl)) | ((with_reducible apply qZ)) | ((with_reducible apply wq)) | ((with_reducible apply wt)) | ((with_reducible apply CF)) | ((with_reducible apply wx)) | ((with_reducible apply wy)) | ((with_reducible apply nD)) | ((with_reducible apply nE)) | ((with_reducible apply nF);(case hb=>exact rfl)) | ((with_reducible apply nG);(case hb=>exact rfl)) | ((with_reducible apply rk)) | ((with_reducible apply rl)) | ((with_reducible apply qY)) | (with_reducible refine ri (by assumption) ?_) | (with_reducible refine rj (by assumption) ?_) | ((with_reducible apply ti);(case ho=>exact rfl);(case hb=>exact rfl);(case he=>exact la)) | ((with_reducible apply wH);(case ho=>exact rfl);(case hs=>exact rfl);(case hv=>exact rfl);(case hb=>exact rfl);(case he=>exact la)) | ((with_reducible apply CL);(case ho=>exact rfl);(case hb=>exact rfl);(case he=>exact la)) | ((with_reducible apply wG)) | ((with_reducible apply mw);(case ho=>exact rfl)) | ((with_reducible apply nJ);(case hs=>exact rfl);(case hv=>exact rfl);(case hd=>exact rfl)) | ((with_reducible apply nK);(case hs=>exact rfl);(case hv=>exact rfl);(case hd=>exact rfl)) | ((with_reducible apply lE);(case hs=>exact rfl);(case hv=>exact rfl)) | ((with_reducible apply CK)) | ((with_reducible apply qh);(case hv=>exact rfl);(case he=>exact la);(case hd=>exact rfl)) | ((with_reducible apply oS);(case hv=>exact rfl);(case he=>exact la)) | ((with_reducible apply bj);(case hv=>exact rfl);(case he=>exact la);(case hd=>exact rfl)) | ((with_reducible apply lD);(case hs=>exact rfl);(case hv=>exact rfl)) | ((with_reducible apply CH))));exact hq.out):p:=s ⟨h⟩
theorem Pr {p q:Prop} (h:q) (s:Ki q→p:=by intro hq;(repeat(first | ((with_reducible apply wK);(case hp=>exact rfl);(case hc=>exact rfl);(case hm=>exact rfl);(case hr=>exact rfl);(case hk=>kernel_rfl)) | ((with_reducible apply rq);(case hp=>exact rfl);(case hy=>exact rfl);(case hc=>exact rfl);(case hpe=>exact Nat.zero_le _);(case hm=>exact rfl);(case hs=>exact rfl);(case hk=>kernel_rfl)) | ((with_reducible apply CN);(case hx=>exact rfl);(case ht=>exact rfl);(case hk=>kernel_rfl)) | ((with_reducible apply ru);(case ht=>exact rfl);(case hz=>exact rfl);(case hk=>kernel_rfl)) | ((with_reducible apply y7);(case hb=>exact rfl);(case he=>exact GZ)) | ((with_reducible apply AG)) | ((with_reducible apply wD)) | ((with_reducible apply CI)) | ((with_reducible apply wz)) | ((with_reducible apply wL);(case ho=>exact rfl);(case hp=>exact rfl);(case hc=>exact rfl);(case hm=>exact rfl);(case hr=>exact rfl);(case hk=>kernel_rfl)) | ((with_reducible apply rr);(case ho=>exact rfl);(case hp=>exact rfl);(case hy=>exact rfl);(case hc=>exact rfl);(case hpe=>exact Nat.zero_le _);(case hm=>exact rfl);(case hs=>exact rfl);(case hk=>kernel_rfl)) | ((with_reducible apply y9);(case ho=>exact rfl);(case hb=>exact rfl);(case he=>exact GZ)) | ((with_reducible apply CJ);(case ho=>exact (show iA _ _=true by kernel_rfl))) | ((with_reducible apply tg);(case hb=>exact rfl);(case he=>exact GZ)) | ((with_reducible apply wB);(case hb=>exact rfl);(case he=>exact GZ)) | ((with_reducible apply wC);(case hs=>exact rfl);(case hv=>exact rfl);(case hb=>exact rfl);(case he=>exact GZ)) | ((with_reducible apply nH);(case hs=>exact rfl);(case hv=>exact rfl);(case hd=>exact rfl)) | ((with_reducible apply nI);(case hs=>exact rfl);(case hv=>exact rfl);(case hd=>exact rfl)) | ((with_reducible apply rn);(case hq=>exact rfl);(case hv=>exact rfl);(case he=>exact GZ);(case hd=>exact rfl)) | ((with_reducible apply tf);(case hq=>exact rfl);(case hv=>exact rfl);(case he=>exact GZ)) | ((with_reducible apply aO);(case hq=>exact rfl);(case hv=>exact rfl);(case he=>exact GZ);(case hd=>exact rfl)) | ((with_reducible apply GX)) | ((with_reducible apply wo)) | ((with_reducible apply wu)) | ((with_reducible apply nC)) | ((with_reducible apply ra);(case he=>exact rfl)) | ((with_reducible apply rb);(case he=>exact rfl)) | ((with_reducible apply qZ)) | ((with_reducible apply wq)) | ((with_reducible apply wt)) | ((with_reducible apply CF)) | ((with_reducible apply wx)) | ((with_reducible apply wy)) | ((with_reducible apply nD)) | ((with_reducible apply nE)) | ((with_reducible apply nF);(case hb=>exact rfl)) | ((with_reducible apply nG);(case hb=>exact rfl)) | ((with_reducible apply rk)) | ((with_reducible apply rl)) | ((with_reducible apply qY)) | (with_reducible refine ri (by assumption) ?_) | (with_reducible refine rj (by assumption) ?_) | ((with_reducible apply ti);(case ho=>exact rfl);(case hb=>exact rfl);(case he=>exact GZ)) | ((with_reducible apply wH);(case ho=>exact rfl);(case hs=>exact rfl);(case hv=>exact rfl);(case hb=>exact rfl);(case he=>exact GZ)) | ((with_reducible apply CL);(case ho=>exact rfl);(case hb=>exact rfl);(case he=>exact GZ)) | ((with_reducible apply wG)) | ((with_reducible apply mw);(case ho=>exact rfl)) | ((with_reducible apply nJ);(case hs=>exact rfl);(case hv=>exact rfl);(case hd=>exact rfl)) | ((with_reducible apply nK);(case hs=>exact rfl);(case hv=>exact rfl);(case hd=>exact rfl)) | ((with_reducible apply lE);(case hs=>exact rfl);(case hv=>exact rfl)) | ((with_reducible apply CK)) | ((with_reducible apply qh);(case hv=>exact rfl);(case he=>exact GZ);(case hd=>exact rfl)) | ((with_reducible apply oS);(case hv=>exact rfl);(case he=>exact GZ)) | ((with_reducible apply bj);(case hv=>exact rfl);(case he=>exact GZ);(case hd=>exact rfl)) | ((with_reducible apply lD);(case hs=>exact rfl);(case hv=>exact rfl)) | ((with_reducible apply CH))));exact hq.out):p:=s ⟨h⟩
theorem yu {p q:Prop} (h:q) (s:Ki q→p:=by intro hq;(repeat(first | ((with_reducible apply wK);(case hp=>exact rfl);(case hc=>exact rfl);(case hm=>exact rfl);(case hr=>exact rfl);(case hk=>kernel_rfl)) | ((with_reducible apply rq);(case hp=>exact rfl);(case hy=>exact rfl);(case hc=>exact rfl);(case hpe=>exact Nat.zero_le _);(case hm=>exact rfl);(case hs=>exact rfl);(case hk=>kernel_rfl)) | ((with_reducible apply CN);(case hx=>exact rfl);(case ht=>exact rfl);(case hk=>kernel_rfl)) | ((with_reducible apply ru);(case ht=>exact rfl);(case hz=>exact rfl);(case hk=>kernel_rfl)) | ((with_reducible apply y7);(case hb=>exact rfl);(case he=>exact G0)) | ((with_reducible apply AG)) | ((with_reducible apply wD)) | ((with_reducible apply CI)) | ((with_reducible apply wz)) | ((with_reducible apply wL);(case ho=>exact rfl);(case hp=>exact rfl);(case hc=>exact rfl);(case hm=>exact rfl);(case hr=>exact rfl);(case hk=>kernel_rfl)) | ((with_reducible apply rr);(case ho=>exact rfl);(case hp=>exact rfl);(case hy=>exact rfl);(case hc=>exact rfl);(case hpe=>exact Nat.zero_le _);(case hm=>exact rfl);(case hs=>exact rfl);(case hk=>kernel_rfl)) | ((with_reducible apply y9);(case ho=>exact rfl);(case hb=>exact rfl);(case he=>exact G0)) | ((with_reducible apply CJ);(case ho=>exact (show iA _ _=true by kernel_rfl))) | ((with_reducible apply tg);(case hb=>exact rfl);(case he=>exact G0)) | ((with_reducible apply wB);(case hb=>exact rfl);(case he=>exact G0)) | ((with_reducible apply wC);(case hs=>exact rfl);(case hv=>exact rfl);(case hb=>exact rfl);(case he=>exact G0)) | ((with_reducible apply nH);(case hs=>exact rfl);(case hv=>exact rfl);(case hd=>exact rfl)) | ((with_reducible apply nI);(case hs=>exact rfl);(case hv=>exact rfl);(case hd=>exact rfl)) | ((with_reducible apply rn);(case hq=>exact rfl);(case hv=>exact rfl);(case he=>exact G0);(case hd=>exact rfl)) | ((with_reducible apply tf);(case hq=>exact rfl);(case hv=>exact rfl);(case he=>exact G0)) | ((with_reducible apply aO);(case hq=>exact rfl);(case hv=>exact rfl);(case he=>exact G0);(case hd=>exact rfl)) | ((with_reducible apply GX)) | ((with_reducible apply wo)) | ((with_reducible apply wu)) | ((with_reducible apply nC)) | ((with_reducible apply ra);(case he=>exact rfl)) | ((with_reducible apply rb);(case he=>exact rfl)) | ((with_reducible apply qZ)) | ((with_reducible apply wq)) | ((with_reducible apply wt)) | ((with_reducible apply CF)) | ((with_reducible apply wx)) | ((with_reducible apply wy)) | ((with_reducible apply nD)) | ((with_reducible apply nE)) | ((with_reducible apply nF);(case hb=>exact rfl)) | ((with_reducible apply nG);(case hb=>exact rfl)) | ((with_reducible apply rk)) | ((with_reducible apply rl)) | ((with_reducible apply qY)) | (with_reducible refine ri (by assumption) ?_) | (with_reducible refine rj (by assumption) ?_) | ((with_reducible apply ti);(case ho=>exact rfl);(case hb=>exact rfl);(case he=>exact G0)) | ((with_reducible apply wH);(case ho=>exact rfl);(case hs=>exact rfl);(case hv=>exact rfl);(case hb=>exact rfl);(case he=>exact G0)) | ((with_reducible apply CL);(case ho=>exact rfl);(case hb=>exact rfl);(case he=>exact G0)) | ((with_reducible apply wG)) | ((with_reducible apply mw);(case ho=>exact rfl)) | ((with_reducible apply nJ);(case hs=>exact rfl);(case hv=>exact rfl);(case hd=>exact rfl)) | ((with_reducible apply nK);(case hs=>exact rfl);(case hv=>exact rfl);(case hd=>exact rfl)) | ((with_reducible apply lE);(case hs=>exact rfl);(case hv=>exact rfl)) | ((with_reducible apply CK)) | ((with_reducible apply qh);(case hv=>exact rfl);(case he=>exact G0);(case hd=>exact rfl)) | ((with_reducible apply oS);(case hv=>exact rfl);(case he=>exact G0)) | ((with_reducible apply bj);(case hv=>exact rfl);(case he=>exact G0);(case hd=>exact rfl)) | ((with_reducible apply lD);(case hs=>exact rfl);(case hv=>exact rfl)) | ((with_reducible apply CH))));exact hq.out):p:=s ⟨h⟩
theorem vm {n0:Nat} {E':VE} {M':VM} {n':Nat} {E:VE} {M:VM} (σ bs:List (Nat×Nat)) (h1:mE (dw n0 σ) (lU M bs) E' E:=by exact mm) (h2:mM (dw n0 σ) (lU M bs) M' (VM.bump M bs):=by exact mm) (h3:uH n0 n' σ=true:=by exact rfl) (h4:EP M bs:=by exact mm) (h5:M'.all (fun x=>Nat.blt x.1 n')=true:=by exact rfl):iy n0 E' M' n' E M:=iy.of σ bs h1 h2 h3 h4 h5
theorem da {R:MV×Dl→Prop} {p q:Prop} {x:MV×Dl} (_hR:R x) (h:q) (s:Ki q→p:=by intro hq;first | ((with_reducible apply nO);(case hp=>exact rfl);(case hc=>exact rfl);(case hm=>exact rfl);(case hr=>exact rfl);(case hk=>kernel_rfl);(case hR=>exact hR)) | ((with_reducible apply oT);(case hp=>exact rfl);(case hy=>exact rfl);(case hc=>exact rfl);(case hpe=>exact Nat.zero_le _);(case hm=>exact rfl);(case hs=>exact rfl);(case hk=>kernel_rfl);(case hR=>exact hR)) | ((with_reducible apply wJ);(case hx=>exact rfl);(case ht=>exact rfl);(case hk=>kernel_rfl);(case hR=>exact hR)) | ((with_reducible apply nN);(case ht=>exact rfl);(case hz=>exact rfl);(case hk=>kernel_rfl);(case hR=>exact hR)) | (repeat(first | exact hR | ((try conv=>whnf);first | exact hR | (with_reducible refine And.intro (Nat.zero_le _) ?_) | (with_reducible refine And.intro rfl ?_) | (with_reducible refine⟨_,cI (by omega),?_⟩) | (with_reducible refine⟨fun _=>?_,fun h=>Bool.noConfusion h⟩) | (with_reducible refine⟨fun h=>Bool.noConfusion h,fun _=>?_⟩) | (with_reducible refine⟨_,sv (eX _ (by omega) (by omega)),?_⟩) | (with_reducible refine⟨_,sv (bS _ (by omega) (by omega)),?_⟩) | (with_reducible refine⟨_,sv (iu _ (by omega) (by omega)),?_⟩) | (refine⟨_,rfl,?_⟩) | (refine And.intro (by omega) ?_))));exact hq.out):p:=s ⟨h⟩
theorem pl:(∀(p:Prop) [Decidable p],(decide p=true)=p)∧(∀(p:Prop) [Decidable p],(decide p=false)= ¬p)∧(∀{α:Type} [BEq α] [LawfulBEq α] {a b:α},((a == b)=true)=(a=b))∧(∀{α:Type} [BEq α] [LawfulBEq α] {a b:α},((a !=b)=true)=(a≠b))∧(∀{α:Type} (a b:α),(a≠b)= ¬(a=b))∧(!true)=false∧(!false)=true∧
  (∀{α:Type} [BEq α] [LawfulBEq α] {a b:α},((a == b)=false)=(a≠b))∧(∀{α:Type} [BEq α] [LawfulBEq α] {a b:α},((a !=b)=false)=(a=b))∧(∀b:Bool,(¬b=true)=(b=false))∧(∀b:Bool,(¬b=false)=(b=true))∧(∀{a b:Bool},((!a)=b)=(a= !b)):=
 ⟨fun p _=>decide_eq_true_eq,fun _ _=>propext decide_eq_false_iff_not,propext beq_iff_eq,propext bne_iff_ne,ne_eq,rfl,rfl,propext beq_eq_false_iff_ne,propext bne_eq_false_iff_eq,Bool.not_eq_true,Bool.not_eq_false,propext Bool.not_eq_eq_eq_not⟩
theorem en {n0 n1:Nat} {res:MV} {M1 M:VM} {vs:List MV} (rv:List MV) (h1:jl rv=res:=by exact rfl) (h2:eZ.relVs (dw n0 []) (lU M []) rv vs:=by exact lm) (h3:mM (dw n0 []) (lU M []) M1 (VM.bump M []):=by exact mm) (h4:uH n0 n1 [] =true:=by exact rfl) (h5:M1.all (fun x=>Nat.blt x.1 n1)=true:=by exact rfl): ∃(rv:List MV) (σ bs:List (Nat×Nat)),jl rv=res∧fg n0 rv M1 n1 vs M σ bs:=⟨rv,[],[],h1,h4,trivial,h5,h2,h3⟩
theorem eb {n0 n1:Nat} {res:MV} {M1 M:VM} {vs:List MV} (rv:List MV) (σ bs:List (Nat×Nat)) (h1:jl rv=res:=by exact rfl) (h2:eZ.relVs (dw n0 σ) (lU M bs) rv vs:=by exact lm) (h3:mM (dw n0 σ) (lU M bs) M1 (VM.bump M bs):=by exact mm) (h4:uH n0 n1 σ=true:=by exact rfl) (h5:M1.all (fun x=>Nat.blt x.1 n1)=true:=by exact rfl) (h6:EP M bs:=by exact mm): ∃(rv:List MV) (σ bs:List (Nat×Nat)),jl rv=res∧fg n0 rv M1 n1 vs M σ bs:=⟨rv,σ,bs,h1,h4,h6,h5,h2,h3⟩
section
variable {Pg:Program} {T:bD} {N:Nat} {ents:List FuncId} {G:GS} {n0:Nat} {ops:Array Oper} {d:Tmp} {ty:TypeId} {pos:String} {after:Array Edge} {g:Option (Nat×Bool)} {rest:List Oper} {K:VK} {J:List Nat→VE→VM→Prop} {E:VE} {M:VM} {n:Nat} {f:Operand} {args:Array Operand} {er:Array TypeId} {f0:FuncId} {vs bC:List MV} {res:MV}
theorem yr (hc:aT Pg G f0 bC [] 0 res [] 0) (h:ak Pg T N ents G ops rest K ((d,res) :: E) M n) (h1: ∀R:FuncId×List MV→Prop,R (f0,vs)→(eI E f args.toList).runP R:=by exact fun _ h=>h) (hd:Nat.blt d N=true:=by exact rfl) (h2:ents.contains f0=true:=by exact rfl) (hf:ek res=true:=by exact rfl) (hm:eZ.relVs (dw 0 []) (lU M []) bC vs:=by exact lm):aB Pg T N ents G ops ⟨some d, .call ⟨.value f,args,er⟩,ty,pos,after,g⟩ rest K E M n:=uZ hd h1 h2 hc hf hm h
theorem jn (hc:aT Pg G f0 bC [] 0 res [] 0) {q:Prop} (h:q) (h1: ∀R:FuncId×List MV→Prop,R (f0,vs)→(eI E f args.toList).runP R:=by exact fun _ h=>h) (hd:Nat.blt d N=true:=by exact rfl) (h2:ents.contains f0=true:=by exact rfl) (hf:ek res=true:=by exact rfl) (hm:eZ.relVs (dw 0 []) (lU M []) bC vs:=by exact lm) (s:Ki q→ak Pg T N ents G ops rest K ((d,res) :: E) M n:=by exact fun b=>aa b.out):aB Pg T N ents G ops ⟨some d, .call ⟨.value f,args,er⟩,ty,pos,after,g⟩ rest K E M n:=yr hc (s ⟨h⟩) h1 hd h2 hf hm
theorem yv (hc:aE Pg G f0 bC res) (h:ak Pg T N ents G ops rest K ((d,res) :: E) M n) (h1: ∀R:FuncId×List MV→Prop,R (f0,vs)→(eI E f args.toList).runP R:=by exact fun _ h=>h) (hd:Nat.blt d N=true:=by exact rfl) (h2:ents.contains f0=true:=by exact rfl) (hf:ek res=true:=by exact rfl) (hm:eZ.relVs (dw 0 []) (lU M []) bC vs:=by exact lm):aB Pg T N ents G ops ⟨some d, .call ⟨.value f,args,er⟩,ty,pos,after,g⟩ rest K E M n:=uZ hd h1 h2 (dL hc) hf hm h
theorem dZ (hc:aE Pg G f0 bC res) {q:Prop} (h:q) (h1: ∀R:FuncId×List MV→Prop,R (f0,vs)→(eI E f args.toList).runP R:=by exact fun _ h=>h) (hd:Nat.blt d N=true:=by exact rfl) (h2:ents.contains f0=true:=by exact rfl) (hf:ek res=true:=by exact rfl) (hm:eZ.relVs (dw 0 []) (lU M []) bC vs:=by exact lm) (s:Ki q→ak Pg T N ents G ops rest K ((d,res) :: E) M n:=by exact fun b=>aa b.out):aB Pg T N ents G ops ⟨some d, .call ⟨.value f,args,er⟩,ty,pos,after,g⟩ rest K E M n:=yv hc (s ⟨h⟩) h1 hd h2 hf hm
theorem ydr (hc:aT Pg G f0 bC [] 0 res [] 0) (h:J [] ((d,res) :: E) M) (h1: ∀R:FuncId×List MV→Prop,R (f0,vs)→(eI E f args.toList).runP R:=by exact fun _ h=>h) (hd:Nat.blt d N=true:=by exact rfl) (h2:ents.contains f0=true:=by exact rfl) (hf:ek res=true:=by exact rfl) (hm:eZ.relVs (dw 0 []) (lU M []) bC vs:=by exact lm):aJ Pg T N ents G true ⟨some d, .call ⟨.value f,args,er⟩,ty,pos,after,g⟩ J E M n:=cG hd h1 h2 [] hc hf [] trivial hm rfl h
theorem tq (hc:aT Pg G f0 bC [] 0 res [] 0) {q:Prop} (h:q) (h1: ∀R:FuncId×List MV→Prop,R (f0,vs)→(eI E f args.toList).runP R:=by exact fun _ h=>h) (hd:Nat.blt d N=true:=by exact rfl) (h2:ents.contains f0=true:=by exact rfl) (hf:ek res=true:=by exact rfl) (hm:eZ.relVs (dw 0 []) (lU M []) bC vs:=by exact lm) (s:Ki q→J [] ((d,res) :: E) M:=by exact fun b=>aa b.out):aJ Pg T N ents G true ⟨some d, .call ⟨.value f,args,er⟩,ty,pos,after,g⟩ J E M n:=ydr hc (s ⟨h⟩) h1 hd h2 hf hm
theorem ZC (hc:aE Pg G f0 bC res) (h:J [] ((d,res) :: E) M) (h1: ∀R:FuncId×List MV→Prop,R (f0,vs)→(eI E f args.toList).runP R:=by exact fun _ h=>h) (hd:Nat.blt d N=true:=by exact rfl) (h2:ents.contains f0=true:=by exact rfl) (hf:ek res=true:=by exact rfl) (hm:eZ.relVs (dw 0 []) (lU M []) bC vs:=by exact lm):aJ Pg T N ents G true ⟨some d, .call ⟨.value f,args,er⟩,ty,pos,after,g⟩ J E M n:=cG hd h1 h2 [] (dL hc) hf [] trivial hm rfl h
theorem di (hc:aE Pg G f0 bC res) {q:Prop} (h:q) (h1: ∀R:FuncId×List MV→Prop,R (f0,vs)→(eI E f args.toList).runP R:=by exact fun _ h=>h) (hd:Nat.blt d N=true:=by exact rfl) (h2:ents.contains f0=true:=by exact rfl) (hf:ek res=true:=by exact rfl) (hm:eZ.relVs (dw 0 []) (lU M []) bC vs:=by exact lm) (s:Ki q→J [] ((d,res) :: E) M:=by exact fun b=>aa b.out):aJ Pg T N ents G true ⟨some d, .call ⟨.value f,args,er⟩,ty,pos,after,g⟩ J E M n:=ZC hc (s ⟨h⟩) h1 hd h2 hf hm
theorem yc {M0:VM} {M1:VM} {n1:Nat} (hc:aT Pg G f0 bC M0 n0 res M1 n1) (σ:List (Nat×Nat)) (h:ak Pg T N ents G ops rest K ((d,dJ (ug n σ) res) :: E) (kU (ug n σ) M1 ++ jw M σ) (n + n1)) (h1: ∀R:FuncId×List MV→Prop,R (f0,vs)→(eI E f args.toList).runP R:=by exact fun _ h=>h) (hd:Nat.blt d N=true:=by exact rfl) (h2:ents.contains f0=true:=by exact rfl) (h5:uH 0 n0 σ=true:=by exact rfl) (h6:M0.all (fun x=>Nat.blt x.1 n0)=true:=by exact rfl) (hm:eZ.relVs (dw 0 σ) (lU M []) bC vs:=by exact lm) (h7:mM (dw 0 σ) (lU M []) M0 (VM.bump M []):=by exact mm) (h3:jj M σ=true:=by exact rfl) (h4:M1.all (fun x=>Nat.blt x.1 n1)=true:=by exact rfl):aB Pg T N ents G ops ⟨some d, .call ⟨.value f,args,er⟩,ty,pos,after,g⟩ rest K E M n:=bF hd h1 h2 hc σ [] ⟨h5,trivial,h6,hm,h7⟩ h3 h4 h
end
end
section
def dr (n:Nat):List UInt8:=if _h:n < 128 then [UInt8.ofNat n] else UInt8.ofNat (n % 128 + 128) :: dr (n / 128)
termination_by n
theorem oU {n:Nat} (h:n < 128):dr n= [UInt8.ofNat n] :=by rw [dr,dif_pos h]
theorem u7 {n:Nat} (h: ¬ n < 128):dr n=UInt8.ofNat (n % 128 + 128) :: dr (n / 128):=by rw [dr,dif_neg h]
def readS:List UInt8→Nat→Nat→Nat×Nat×Nat
 | [],_,_=>(0,0,5)
 | x :: r,i,n=>
  if i=9∧1 < x.toNat then(0,0,6) else if 0 < i∧x.toNat=0 then(0,0,4) else
  if x.toNat < 128 then(n + x.toNat * 128 ^ i,i + 1,0) else readS r (i + 1) (n + (x.toNat - 128) * 128 ^ i)
theorem kP {n:Nat} (h:n < 256):(UInt8.ofNat n).toNat=n:=by rw [UInt8.toNat_ofNat'];omega
theorem CS: ∀(k n:Nat),n < 128 ^ (k + 1)→1≤(dr n).length∧(dr n).length≤k + 1
 | 0,n,h=>by rw [oU om];simp
 | k + 1,n,h=>by
  by_cases hn:n < 128
  ·rw [oU hn];simp
  ·rw [u7 hn]
   have:=CS k (n / 128) (by rw [e₆] at h;omega)
   simp only [b₆]
   omega
theorem dW {n:Nat} (h:n < 18446744073709551616):1≤(dr n).length∧(dr n).length≤10:=CS 9 n om
theorem CT: ∀(m n:Nat),n≤m→∀(i acc:Nat) (r:List UInt8),i≤9→n * 128 ^ i < 18446744073709551616→(0 < i→0 < n)→readS (dr n ++ r) i acc=(acc + n * 128 ^ i,i + (dr n).length,0)
 | m,n,hm,i,acc,r,hi,hb,h0=>by
  have h9:i=9→n≤1:=fun h=>by subst h;omega
  by_cases hn:n < 128
  ·rw [oU hn]
   simp only [List.singleton_append,readS,kP (show n < 256 by omega),c₈]
   rw [if_neg om,if_neg om,if_pos hn]
  ·rw [u7 hn]
   have h9':i≠9:=fun h=>by have:=h9 h;omega
   simp only [List.cons_append,readS,kP (show n % 128 + 128 < 256 by omega),b₆]
   rw [if_neg om,if_neg om,if_neg om]
   have e:n=128 * (n / 128) + n % 128:=(f₉ n 128).symm
   have e2:n * 128 ^ i=(n / 128) * 128 ^ (i + 1) + n % 128 * 128 ^ i:=by
    rw [e₆]
    conv=>lhs;rw [e,Nat.add_mul]
    rw [e₅ 128 (n / 128),Nat.mul_assoc,e₅ 128 (128 ^ i)]
   match m,hm with
   | 0,hm=>exact absurd hm om
   | m + 1,hm=>
    rw [CT m (n / 128) om (i + 1) _ r om om om]
    rw [show n % 128 + 128 - 128=n % 128 by omega,e2]
    refine d₃ dm (d₃ dm rfl)
theorem tr {n:Nat} (h:n < 18446744073709551616) (r:List UInt8):readS (dr n ++ r) 0 0=(n,(dr n).length,0):=by
 have:=CT n n (b₂ n) 0 0 r om om om;rw [this];refine d₃ dm (d₃ dm rfl)
theorem my: ∀(b:List UInt8) (i n:Nat),i≤9→n < 128 ^ i→(readS b i n).2.2=0→i < (readS b i n).2.1∧(readS b i n).2.1≤i + b.length∧(readS b i n).1 < 18446744073709551616
 | [],i,n,_,_,h=>by simp [readS] at h
 | x :: r,i,n,hi,hn,h=>by
  have hx:=x.toNat_lt
  rw [readS] at h ⊢
  have hp:i≤8→128 ^ i≤72057594037927936:=fun h=>c₃ (Nat.pow_le_pow_right om h) (by decide)
  split at h
  ·cases h
  ·rename_i h1
   rw [if_neg h1]
   split at h
   ·cases h
   ·rename_i h2
    rw [if_neg h2]
    split at h
    ·rename_i h3
     rw [if_pos h3]
     refine⟨dm,by dsimp only;simp only [b₆];omega,?_⟩
     dsimp only
     rcases c₇ i 9 with h9 | h9
     ·have:=hp om
      have h5:x.toNat * 128 ^ i≤127 * 128 ^ i:=c₉ _ om
      omega
     ·have:i=9:=om
      subst this
      omega
    ·rename_i h3
     rw [if_neg h3]
     have h9:i≠9:=fun he=>h1 ⟨he,om⟩
     have:=my r (i + 1) (n + (x.toNat - 128) * 128 ^ i) om (by
      rw [e₆]
      have:(x.toNat - 128) * 128 ^ i≤127 * 128 ^ i:=c₉ _ om
      omega) h
     simp only [b₆]
     omega
structure fq where
 num:Nat
 kind:Nat
 val:Nat
 bytes:List UInt8
 deriving DecidableEq
def fld0:fq:=⟨0,0,0,[]⟩
def aZ (f:fq):List UInt8:=dr (f.num * 8 + f.kind) ++ (if f.kind=0 then dr f.val else dr f.bytes.length ++ f.bytes)
def aG (l:List fq):List UInt8:=(l.map aZ).flatten
def jo (f:fq):Prop:=1≤f.num∧f.num≤536870911∧(f.kind=0∧f.bytes= [] ∧f.val < 18446744073709551616∨f.kind=2∧f.val=0∧f.bytes.length < 18446744073709551616)
def gj (b:List UInt8):fq×Nat×Nat:=
 match readS b 0 0 with
 | (tag,n,e)=>if e≠0 then(fld0,0,e) else
  if tag / 8 < 1∨536870911 < tag / 8∨(tag % 8≠0∧tag % 8≠2) then(fld0,0,4) else
  match readS (b.drop n) 0 0 with
  | (v,k,e)=>if e≠0 then(fld0,0,e) else
   if tag % 8=0 then(⟨tag / 8,0,v,[]⟩,n + k,0) else
   if b.length - (n + k) < v then(fld0,0,5) else(⟨tag / 8,2,0,(b.drop (n + k)).take v⟩,n + k + v,0)
theorem I0 {f:fq} (h:jo f) (r:List UInt8):gj (aZ f ++ r)=(f,(aZ f).length,0):=by
 obtain⟨num,kind,val,bytes⟩:=f;obtain⟨h1,h2,h3⟩:=h;dsimp only at h1 h2 h3;unfold gj aZ;dsimp only;rw [b₉,tr om];dsimp only;rw [if_neg sm,if_neg om,d₇];rcases h3 with ⟨rfl,rfl,hv⟩ | ⟨rfl,rfl,hv⟩
 ·rw [if_pos rfl,tr hv];dsimp only;rw [if_neg sm,if_pos om,a₇,show (num * 8 + 0) / 8=num by omega]
 ·rw [if_neg (by omega: ¬ (2:Nat)=0),b₉,tr hv];dsimp only;have e:(dr (num * 8 + 2) ++ (dr bytes.length ++ (bytes ++ r))).drop ((dr (num * 8 + 2)).length + (dr bytes.length).length)=bytes ++ r:=by
   rw [← b₉,← a₇,d₇]
  rw [if_neg sm,if_neg om,if_neg (by simp only [a₇];omega),e,List.take_left,show (num * 8 + 2) / 8=num by omega];refine d₃ rfl (d₃ ?_ rfl);dsimp only;simp only [a₇];omega
theorem Fk {b:List UInt8} (h:(gj b).2.2=0):1≤(gj b).2.1∧(gj b).2.1≤b.length∧jo (gj b).1∧(gj b).1.bytes.length≤b.length:=by
 have h1:=my b 0 0 om om;unfold gj at h ⊢;generalize readS b 0 0=t at *;obtain⟨tag,n,e⟩:=t;dsimp only at *;split at h
 ·contradiction
 rename_i he;rw [if_neg he];have he:e=0:=om;split at h
 ·cases h
 rename_i ht;rw [if_neg ht];have h2:=my (b.drop n) 0 0 om om;generalize readS (b.drop n) 0 0=u at *;obtain⟨v,k,e2⟩:=u;dsimp only at *;split at h
 ·contradiction
 rename_i xU;rw [if_neg xU];have hh:=h1 he;have Ys:=h2 om;rw [f₄] at Ys;split at h
 ·rename_i hk;rw [if_pos hk];exact⟨dm,dm,⟨dm,dm, .inl ⟨rfl,rfl,dm⟩⟩,sm⟩
 ·rename_i hk;rw [if_neg hk];split at h
  ·cases h
  ·rename_i hv;rw [if_neg hv];have hl:((b.drop (n + k)).take v).length=v:=by rw [f₂,f₄];omega
   exact⟨dm,dm,⟨dm,dm, .inr ⟨rfl,rfl,dm⟩⟩,dm⟩
def gA:Nat→List UInt8→Nat→List fq→List fq×Nat×Nat
 | _,[],_,acc=>(acc,0,0)
 | 0,_ :: _,at_,_=>([],at_,3)
 | k + 1,x :: b,at_,acc=>match gj (x :: b) with
  | (f,n,e)=>if e≠0 then([],at_,e) else gA k ((x :: b).drop n) (at_ + n) (acc ++ [f])
def aF (b:List UInt8):List fq×Nat×Nat:=gA 1024 b 0 []
theorem kf: ∀(l:List fq) (k at_:Nat) (acc:List fq),(∀f∈l,jo f)→l.length≤k→gA k (aG l) at_ acc=(acc ++ l,0,0)
 | [],k,at_,acc,_,_=>by
  have:aG [] = [] :=rfl
  rw [this,d₆]
  cases k <;> rfl
 | f :: l,k + 1,at_,acc,h,hk=>by
  have h1:aG (f :: l)=aZ f ++ aG l:=by simp [aG]
  have h0:1≤(aZ f).length:=by
   unfold aZ
   have hf:=h f sm
   have:=(dW (n:=f.num * 8 + f.kind) (by unfold jo at hf;omega)).1
   rw [a₇];omega
  have Vg:=I0 (h f sm) (aG l)
  rw [h1]
  generalize hx:aZ f ++ aG l=x at *
  cases x with
  | nil=>have:=congrArg List.length hx;simp at this;simp [this.1] at h0
  | cons y b=>
   rw [gA,Vg]
   dsimp only
   rw [if_neg sm,← hx,d₇,kf l k _ _ (fun g hg=>h g (by simp [hg])) (by simpa using hk),b₉]
   rfl
end
section
variable {G:GS}
theorem Ps (m:Nat):IntKind.u8.wrap (m:Int)=((UInt8.ofNat m).toNat:Int):=by
 rw [w8,UInt8.toNat_ofNat'];exact(d₂ _ 256).symm
theorem Lr {p:UInt8→Prop} (h: ∀n:Fin 256,p (UInt8.ofNat n.val)) (x:UInt8):p x:=by
 have:=h ⟨x.toNat,x.toNat_lt⟩
 rwa [UInt8.ofNat_toNat] at this
theorem I1 (x:UInt8):x ||| 128=UInt8.ofNat (x.toNat % 128 + 128):=Lr (p:=fun x=>x ||| 128=UInt8.ofNat (x.toNat % 128 + 128)) (by decide +kernel) x
theorem or8 (x y:UInt8):IntKind.u8.wrap ((BitVec.ofInt IntKind.u8.bits (x.toNat:Int) ||| BitVec.ofInt IntKind.u8.bits (y.toNat:Int)).toNat:Int)=((x ||| y).toNat:Int):=by
 have h:=t8 (x ||| y);rw [BitVec.toNat_or,fQ _ _ (t8 x),fQ _ _ (t8 y),← UInt8.toNat_or,w8];omega
theorem ZD (x y:UInt8):IntKind.u8.wrap ((BitVec.ofInt IntKind.u8.bits (x.toNat:Int) &&& BitVec.ofInt IntKind.u8.bits (y.toNat:Int)).toNat:Int)=((x &&& y).toNat:Int):=by
 have h:=t8 (x &&& y);rw [BitVec.toNat_and,fQ _ _ (t8 x),fQ _ _ (t8 y),← UInt8.toNat_and,w8];omega
theorem Se (m:Nat):IntKind.u8.wrap ((BitVec.ofInt IntKind.u8.bits ((UInt8.ofNat m).toNat:Int) ||| BitVec.ofInt IntKind.u8.bits (128:Int)).toNat:Int)=((UInt8.ofNat (m % 128 + 128)).toNat:Int):=by
 have h:=or8 (UInt8.ofNat m) 128;rw [I1] at h;rw [show (UInt8.ofNat m).toNat % 128 + 128=m % 128 + 128 by rw [UInt8.toNat_ofNat'];omega] at h;exact h
theorem Ls (m:Nat):((m:Int).fdiv (2 ^ (min (7:Int).toNat IntKind.u64.bits)))=((m / 128:Nat):Int):=by
 rw [show min (7:Int).toNat IntKind.u64.bits=7 by rfl,d₀ _ (by decide)];exact(f₃ m 128).symm
theorem CU {p:List UInt8} {m n:Nat} (h:p ++ dr m=dr n) (hm: ¬ m < 128):(p ++ [UInt8.ofNat (m % 128 + 128)]) ++ dr (m / 128)=dr n:=by
 rw [u7 hm] at h;rw [← h,b₉];rfl
def kg (l:List UInt8):VM:= [(0,⟨5,1,true,0,u8s l⟩)]
theorem bX: ∀(b:List UInt8),bg (u8s b) 1=true
 | [] =>rfl
 | _ :: _=>rfl
theorem Ha {p:List UInt8} {m n:Nat} (h:p ++ dr m=dr n) (hn:n < 18446744073709551616):p.length≤10:=by
 have:=(dW hn).2;rw [← h,a₇] at this;omega
theorem CW (b:List UInt8) (n:Nat) (hb:b.length < 500000000) (hn:n < 18446744073709551616) :
  aT Tryz.prog G 238 [.sl b.length (u8s b), .int .u64 n] [] 0 (.ms 0 1 0 (b.length + (dr n).length)) (kg (b ++ dr n)) 1:=by
 unfold kg
 refine dK seat Tryz.func238 24 ?_
 refine aa ?_
 refine aO rfl rfl (by intro R hR;refine da hR ?_;refine b₈ (bX b) ?_;refine b₈ ⟨pf,ai (by kernel_rfl) pf⟩ ?_;refine⟨u8s b,sv pf,b.length,sv pf,?_⟩;exact hR) rfl ?_
 refine aa ?_
 refine av (List UInt8×Nat) (fun x=> [(5, .ms 0 1 0 (b.length + x.1.length)),(1, .int .u64 x.2)]) (fun x=> [(0,⟨5,1,true,0,u8s (b ++ x.1)⟩)]) 1 (fun x=>x.1 ++ dr x.2=dr n∧x.2 < 18446744073709551616) (fun x=>x.2) ([],n) ⟨rfl,hn⟩ (by dsimp only;rw [g₁,d₆];exact(vm [(0,_)] [])) ?_
 rintro⟨p,m⟩ ⟨hp,OF⟩
 try dsimp only
 dsimp only at hp OF
 refine aa ?_
 refine ad rfl ?_ ?_ <;> intro h
 ·have hm: ¬ m < 128:=by have:=ot h;omega
  have h2:=CU hp hm
  have l2:=Ha hp hn
  (have dh:=aX.mk (Ps m);have dh:=aX.mk (Se m);have dh:=aX.mk (Ls m);refine aa ?_)
  refine aO rfl rfl (by intro R hR;refine da hR ?_;(refine b₈ (b₂ _) ?_;refine⟨_,rfl,?_⟩;refine b₈ ⟨(by simp [u8s]),ai (by kernel_rfl) pf⟩ ?_;refine⟨u8s (b ++ (p ++ [UInt8.ofNat (m % 128 + 128)])),sv (by simp [u8s,cutL,setL,repM]),b.length + (p.length + 1),sv pf,?_⟩);exact hR) rfl ?_
  (have dh:=aX.mk (Ls m);refine aa ?_)
  exact⟨(p ++ [UInt8.ofNat (m % 128 + 128)],m / 128),⟨h2,dm⟩,dm,by dsimp only;rw [a₇,c₈];exact(vm [(0,_)] [])⟩
 ·have hm:m < 128:=by have:=oF h;omega
  have l2:=Ha hp hn
  rw [oU hm] at hp
  have l3:(dr n).length=p.length + 1:=by rw [← hp];simp
  (have dh:=aX.mk (Ps m);refine aa ?_)
  refine aO rfl rfl (by intro R hR;refine da hR ?_;(refine b₈ (b₂ _) ?_;refine⟨_,rfl,?_⟩;refine b₈ ⟨(by simp [u8s]),ai (by kernel_rfl) pf⟩ ?_;refine⟨u8s (b ++ dr n),sv (by rw [← hp];simp [u8s,cutL,setL,repM]),b.length + (dr n).length,sv pf,?_⟩);exact hR) rfl ?_
  refine aa ?_
  exact eb [_] [(0,7)] []
theorem I2 (b:List UInt8) (n:Nat) (hb:b.length < 500000000) (hn:n < 18446744073709551616) :
  aT Tryz.prog G 210 [.sl b.length (u8s b), .int .u64 n] [] 0 (.ms 0 1 0 (b.length + (dr n).length)) (kg (b ++ dr n)) 1:=by
 unfold kg
 refine dK seat Tryz.func210 23 ?_
 refine aa ?_
 refine aO rfl rfl (by intro R hR;refine da hR ?_;refine b₈ (bX b) ?_;refine b₈ (rA (by kernel_rfl) om) ?_;exact hR) rfl ?_
 refine aa ?_
 refine av (List UInt8×Nat) (fun x=> [(5, .ms 0 1 0 (b.length + x.1.length)),(1, .int .u64 x.2)]) (fun x=> [(0,⟨5,1,true,0,u8s (b ++ x.1)⟩)]) 1 (fun x=>x.1 ++ dr x.2=dr n∧x.2 < 18446744073709551616) (fun x=>x.2) ([],n) ⟨rfl,hn⟩ (by dsimp only;rw [g₁,d₆];exact(vm [(0,_)] [])) ?_
 rintro⟨p,m⟩ ⟨hp,OF⟩
 try dsimp only
 dsimp only at hp OF
 refine aa ?_
 refine ad rfl ?_ ?_ <;> intro h
 ·have hm: ¬ m < 128:=by have:=ot h;omega
  have h2:=CU hp hm
  have l2:=Ha hp hn
  (have dh:=aX.mk (Ps m);have dh:=aX.mk (Se m);have dh:=aX.mk (Ls m);refine aa ?_)
  refine aO rfl rfl (by intro R hR;refine da hR ?_;(refine b₈ (b₂ _) ?_;refine⟨_,rfl,?_⟩;refine b₈ ⟨(by simp [u8s]),ai (by kernel_rfl) pf⟩ ?_;refine⟨u8s (b ++ (p ++ [UInt8.ofNat (m % 128 + 128)])),sv (by simp [u8s,cutL,setL,repM]),b.length + (p.length + 1),sv pf,?_⟩);exact hR) rfl ?_
  (have dh:=aX.mk (Ls m);refine aa ?_)
  exact⟨(p ++ [UInt8.ofNat (m % 128 + 128)],m / 128),⟨h2,dm⟩,dm,by dsimp only;rw [a₇,c₈];exact(vm [(0,_)] [])⟩
 ·have hm:m < 128:=by have:=oF h;omega
  have l2:=Ha hp hn
  rw [oU hm] at hp
  have l3:(dr n).length=p.length + 1:=by rw [← hp];simp
  (have dh:=aX.mk (Ps m);refine aa ?_)
  refine aO rfl rfl (by intro R hR;refine da hR ?_;(refine b₈ (b₂ _) ?_;refine⟨_,rfl,?_⟩;refine b₈ ⟨(by simp [u8s]),ai (by kernel_rfl) pf⟩ ?_;refine⟨u8s (b ++ dr n),sv (by rw [← hp];simp [u8s,cutL,setL,repM]),b.length + (dr n).length,sv pf,?_⟩);exact hR) rfl ?_
  refine aa ?_
  exact eb [_] [(0,7)] []
end
end Go.Proofs.YtohikcplmbkmeaaGreatDoor
