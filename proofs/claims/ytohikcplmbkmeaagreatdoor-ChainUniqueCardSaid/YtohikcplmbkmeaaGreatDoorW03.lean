/- Parts of a proof, one behind the other: M24, M25, M26, M27, M28, M31, Opn, M33, M34, M35, KL, Seat, S0, S2, U32, K, A1, B1, B2. -/
import Derived.Test.YtohikcplmbkmeaaGreatDoorW02
open Bool renaming and_eq_true → a₀,noConfusion → a₃,not_eq_true' → b₃,or_eq_true → c₈
open Nat renaming blt → a₄,beq → a₆,mul_le_mul_right → a₈,mod_eq_of_lt → a₉,le_refl → b₄,eq_of_beq_eq_true → c₅,pow_succ → c₇,le_trans → c₉,lt_or_ge → d₀,ble → d₃,blt_eq → e₁,pow_le_pow_right → e₄,sub_zero → e₇,mul_comm → e₈,shiftLeft_eq → f₄,div_add_mod → g₀
open List renaming toArray → a₅,length_append → a₇,mem_map → b₀,mem_map_of_mem → b₁,mem_cons → b₂,all_eq_true → b₅,getElem?_eq_some_iff → b₆,length_cons → b₈,range → b₉,append_assoc → c₁,mem_range → c₂,map_cons → c₃,mem_append → c₄,zipWith → c₆,length_singleton → d₁,nodup_cons → d₆,map_append → d₇,append_nil → d₉,drop_left → e₀,pairwise_append → e₃,pairwise_cons → e₆,nodup_append → e₉,length_range → f₀,append → f₁,length_take → f₃,length_drop → f₆,mem_filter → f₇,length_map → f₉,length_nil → g₂
open Prod.mk renaming injEq → b₇
open And renaming intro → c₀
open Int renaming fdiv_eq_ediv_of_nonneg → d₂,natCast_emod → d₄,natCast_pow → d₈,toNat_of_nonneg → e₅,natCast_ediv → f₅,natCast_mul → g₁
open Prod renaming ext → d₅
open Option renaming getD_some → f₂,map_some → f₈
set_option maxRecDepth 20000
set_option maxHeartbeats 16000000
set_option linter.unusedVariables false
set_option linter.unusedSimpArgs false
namespace Go.Proofs.YtohikcplmbkmeaaGreatDoor
open Go.RowKit
section
theorem Bq (m:FM) (l l':List (Nat×Nat)):dk (dk m l) l'=dk (dk m l') l:=by
 funext c;rw [bumpF_get,bumpF_get,bumpF_get,bumpF_get];cases m c with
 | none=>rfl
 | some b=>simp [Nat.max_assoc,Nat.max_comm (mxB l c)]
theorem tF (m:FM) (l:List (Nat×Nat)):fj m (dk m l):=fun c b h=>⟨{ b with pe:=Nat.max b.pe (mxB l c) },by rw [bumpF_get,h];rfl,rfl,rfl,rfl,rfl⟩
theorem tG (m:FM) (l:List (Nat×Nat)):fj (dk m l) m:=fun c b h=>by
 rw [bumpF_get] at h;cases hb:m c with
 | none=>rw [hb] at h;cases h
 | some b'=>rw [hb] at h;injection h with h;subst h;exact⟨b',rfl,rfl,rfl,rfl,rfl⟩
theorem EB {m:FM} {j:Nat} (h:m j=none) (b:MB):fj m (aO m j b):=fun c b' hb=>by
 have:aO m j b c=some b':=by
  unfold aO;rw [if_neg]
  ·exact hb
  ·rintro rfl;rw [h] at hb;cases hb
 exact⟨b',this,rfl,rfl,rfl,rfl⟩
theorem EC {m:FM} {j:Nat} {b:MB} {l:List (Nat×Nat)} (h:m j=none) (hl: ∀c∈l,m c.1≠none):dk (aO m j b) l=aO (dk m l) j b:=by
 have h0: ∀{l:List (Nat×Nat)},(∀c∈l,m c.1≠none)→mxB l j=0:=by
  intro l
  induction l with
  | nil=>intro _;rfl
  | cons x l ih=>
   intro hl;obtain⟨k,n⟩:=x;have:k≠j:=by rintro rfl;exact hl (k,n) sm h
   simp only [mxB,this,if_false];exact ih fun c hc=>hl c (by simp [hc])
 funext c;rw [bumpF_get];unfold aO;by_cases hc:c=j
 ·subst hc;simp [h0 hl]
 ·simp only [hc,if_false];rw [bumpF_get]
theorem vT {α:Type} {m:Nat→Option α} {i j:Nat} {a b:α} (h:i≠j):aO (aO m i a) j b=aO (aO m j b) i a:=by
 funext c;unfold aO;by_cases h1:c=i
 ·subst h1;simp [h]
 ·simp [h1]
section
variable (Pg:Program) (T:bB) (N:Nat) (ents:List FuncId) (G:GS)
def fD (e:Nat→Option MV) (f:Operand) (args:List Operand):bj (FuncId×List MV):=
 rd e f fun fv=>mS e args fun vs=>match fv with
  | .fn f0 caps=> .ret (f0,vs ++ caps)
  | _=> .bad
def vz (o:Oper) (n:Nat) (e:Nat→Option MV) (m:FM) (fp:List Nat) (r:MV) (m':FM):Prop:=match o.op with
 | .call c=>match c.callee with
  | .value f=>(fD e f c.args.toList).runP fun x=>ents.contains x.1=true∧∃M,VM.get M=m∧lO Pg G M n x.1 x.2 fp fun r' M'=>r'=r∧VM.get M'=m'
  | _=>False
 | _=>False
def Gy (ops:Array Oper) (o:Oper) (n:Nat) (e:Nat→Option MV) (m:FM) (fp:List Nat) (r:MV) (m':FM):Prop:=
 ∃b,Bm ops o e=some b∧(b=true→vz Pg ents G o n e m fp r m')∧(b=false→r= .undef∧m'=m)
def dC (ops:Array Oper) (rf:Bool) (o:Oper) (n:Nat) (fp:List Nat) (e:Nat→Option MV) (m:FM) (e':Nat→Option MV) (m':FM):Prop:=
 ∃r,(∀d,o.dst=some d→d < N)∧e'=kW o.dst r e∧match rf with
  | false=> ∃δ,nE Pg T ents G ops o e m n r δ∧m'=δ.appF n m∧fp=numsO e o.op.operands.toList
  | true=>Gy Pg ents G ops o n e m fp r m'
end
section
variable {Pg:Program} {T:bB} {N:Nat} {ents:List FuncId} {G:GS} {ops:Array Oper} {o x y:Oper} {e e1 e2 e':Nat→Option MV} {m m1 m2 m':FM} {M M2:VM} {i j n:Nat} {fp fx fy:List Nat} {rf rx ry:Bool} {r:MV}
theorem hY {d:Option Tmp} {r:MV} {e:Nat→Option MV} {l:List Tmp} (h: ∀t,d=some t→t ∉ l): ∀t∈l,kW d r e t=e t:=by
 intro t ht;cases d with
 | none=>rfl
 | some d=>
  show aO e d r t=e t
  unfold aO;rw [if_neg];rintro rfl;exact h _ rfl ht
theorem mW {d d':Option Tmp} {r r':MV} (h: ∀t,d=some t→d'≠some t):kW d r (kW d' r' e)=kW d' r' (kW d r e):=by
 cases d with
 | none=>rfl
 | some d=>
  cases d' with
  | none=>rfl
  | some d'=>exact vT fun hh=>h d rfl (by rw [hh])
theorem vU {t:Operand} (h: ∀t∈o.looksAt ops,e t=e' t) (ht:t∈o.op.operands.toList):iV e t=iV e' t:=Gr fun s hs=>h s (by
 subst hs;unfold Oper.looksAt;refine c₄.2 (.inl ?_);rw [List.mem_filterMap];exact⟨_,ht,rfl⟩)
theorem oZ (h: ∀t∈o.looksAt ops,e t=e' t):numsO e o.op.operands.toList=numsO e' o.op.operands.toList:=by
 have key: ∀l:List Operand,(∀x∈l,iV e x=iV e' x)→numsO e l=numsO e' l:=by
  intro l
  induction l with
  | nil=>intro _;rfl
  | cons x l ih=>intro h;simp only [numsO];rw [h x sm,ih fun y hy=>h y (by simp [hy])]
 exact key _ fun x hx=>vU h hx
theorem L3 (h: ∀t∈o.looksAt ops,e t=e' t):Bm ops o e=Bm ops o e':=by
 unfold Bm;split
 ·rfl
 ·rename_i j want hg;split
  ·rfl
  ·rename_i s hs;rw [h s (by
    unfold Oper.looksAt;rw [hg];simp [hs])]
theorem JK (h: ∀t∈o.looksAt ops,e t=e' t):vz Pg ents G o n e m fp r m'→vz Pg ents G o n e' m fp r m':=by
 have hh: ∀x∈o.op.operands.toList,iV e x=iV e' x:=fun x hx=>vU h hx
 unfold vz;split
 ·rename_i c hc;split
  ·rename_i f hf;rw [hc,tE hf] at hh;have:fD e f c.args.toList=fD e' f c.args.toList:=by
    unfold fD;rw [dB (hh f sm)];congr 1;funext v;rw [oa fun x hx=>hh x (by simp [hx])]
   rw [this];exact id
  ·exact id
 ·exact id
theorem JL (h: ∀t∈o.looksAt ops,e t=e' t):Gy Pg ents G ops o n e m fp r m'→Gy Pg ents G ops o n e' m fp r m':=by
 rintro⟨b,h1,h2,h3⟩;exact⟨b,by rw [← L3 h];exact h1,fun hb=>JK h (h2 hb),h3⟩
theorem zl {l S:List Nat} (h:vq l S=true): ∀c∈l,c∈S:=by
 intro c hc;unfold vq at h;rw [b₅] at h;obtain⟨x,hx,he⟩:=List.any_eq_true.1 (h c hc);rw [← c₅ he];exact hx
theorem jI: ∀(σ:List (Nat×Nat)) (M:VM) (x:Nat),x ∉ σ.map (·.2)→VM.get (iI M σ) x=VM.get M x
 | [],M,x,_=>rfl
 | (c,d) :: σ,M,x,h=>by
  simp only [c₃,b₂,not_or] at h
  show VM.get (iI (VM.del M d) σ) x=_
  rw [jI σ _ x h.2,VM.get_del]
  unfold iT
  rw [if_neg h.1]
theorem rM: ∀(σ:List (Nat×Nat)) (M:VM) (x:Nat),x∈σ.map (·.2)→VM.get (iI M σ) x=none:=by
 intro σ M x h;cases hx:VM.get (iI M σ) x with
 | none=>rfl
 | some b=>
  obtain⟨_,h2⟩:=lP σ M x b hx;obtain⟨⟨c,d⟩,h3,rfl⟩:=b₀.1 h;exact absurd h3 (h2 c)
theorem ED {bs:List (Nat×Nat)} {c:Nat} (h:c ∉ bs.map (·.1)):VM.get (VM.bump M bs) c=VM.get M c:=by
 rw [VM.get_bump,bumpF_get];have:mxB bs c=0:=by
  induction bs with
  | nil=>rfl
  | cons x l ih=>
   obtain⟨k,n⟩:=x;simp only [c₃,b₂,not_or] at h;simp only [mxB];rw [if_neg fun hh=>h.1 (Eq.symm hh)];exact ih h.2
 rw [this];cases VM.get M c with
 | none=>rfl
 | some b=>simp
theorem zm {bs:List (Nat×Nat)} {c:Nat} (h:VM.get M2 c=VM.get M c):VM.get (VM.bump M2 bs) c=VM.get (VM.bump M bs) c:=by
 rw [VM.get_bump,VM.get_bump,bumpF_get,bumpF_get,h]
theorem eB.loc {args vs:List MV} {M0:VM} {n0:Nat} {σ bs:List (Nat×Nat)} (h:eB 0 args M0 n0 vs M σ bs) (ha:vd (VM.get M2) (VM.get M) fp) (h1: ∀c∈σ.map (·.2),c∈fp) (h2: ∀c∈bs.map (·.1),c∈fp):eB 0 args M0 n0 vs M2 σ bs:=by
 obtain⟨q1,q2,q3,q4,q5⟩:=h;have hb:Bd M2 bs:=by
  clear q4 q5
  induction bs with
  | nil=>trivial
  | cons x l ih=>
   obtain⟨c,k⟩:=x;refine⟨?_,ih (fun c hc=>h2 c (by simp at hc ⊢;exact .inr hc)) q2.2⟩;rw [ha c (h2 c sm)];exact q2.1
 have hf:kI M2 bs=kI M bs:=by
  clear q2 q4 q5 hb
  induction bs with
  | nil=>rfl
  | cons x l ih=>
   obtain⟨c,k⟩:=x;funext d
   show(bif a₆ c d then(match VM.get M2 d with | some b=>some (b,k) | none=>none) else kI M2 l d)=(bif a₆ c d then(match VM.get M d with | some b=>some (b,k) | none=>none) else kI M l d)
   by_cases e:c=d
   ·subst e;rw [ha c (h2 c sm)];simp
   ·simp only [gE e,cond_false];rw [ih fun c hc=>h2 c (by simp at hc ⊢;exact .inr hc)]
 refine⟨q1,hb,q3,by rw [hf];exact q4,?_⟩;rw [hf];clear q3 q4
 induction M0 with
 | nil=>trivial
 | cons x M0 ih=>
  obtain⟨c,b'⟩:=x;refine⟨?_,ih q5.2⟩;rcases q5.1 with h | ⟨c0,b,s1,s2,s3⟩
  ·exact .inl h
  ·have hc0:c0∈fp:=h1 c0 (b₀.2 ⟨(c,c0),fM (show mV σ c=some c0 from s1),rfl⟩);exact .inr ⟨c0,b,s1,by rw [zm (ha c0 hc0)];exact s2,s3⟩
theorem xz {ρ:Nat→Nat} {x:Nat}: ∀{M1:VM},(∀z∈M1,ρ z.1≠x)→VM.get (jO ρ M1) x=none
 | [],_=>rfl
 | (c,b) :: M1,h=>by
  show VM.get ((ρ c,_) :: jO ρ M1) x=none
  rw [VM.get_cons,if_neg (h (c,b) sm)]
  exact xz fun z hz=>h z (by simp [hz])
theorem Gz (h:vz Pg ents G o n e (VM.get M) fp r m') (ha:vd (VM.get M2) (VM.get M) fp):(∃M2',vz Pg ents G o n e (VM.get M2) fp r (VM.get M2')∧∀c,VM.get M2 c=VM.get M c→VM.get M2' c=m' c)∧∀c,c ∉ fp→c≠n→m' c=VM.get M c:=by
 unfold vz at h ⊢;split at h
 ·rename_i c hc;split at h
  ·rename_i f hf;have key: ∀{K:FuncId×List MV→Prop},(fD e f c.args.toList).runP K→∃x,K x∧∀K':FuncId×List MV→Prop,K' x→(fD e f c.args.toList).runP K':=by
    intro K hK;unfold fD at hK ⊢;obtain⟨a,h1,h2,h3⟩:=(af.rd fun fv=>af.rds fun vs=>by cases fv <;> first | exact af.ret _ | exact af.bad) K hK;exact⟨a,h2,h3⟩
   obtain⟨x,⟨hx,M',hM',args,M0,n0,res,M1,n1,hsem,σ,bs,hL,hin,hk,s1,s2,rfl,rfl⟩,hback⟩:=key h;have hsub1:=zl s1;have hsub2:=zl s2;have ha':vd (VM.get M2) (VM.get M') fp:=fun c hc=>by rw [hM'];exact ha c hc
   have hin2:iv M2 σ=true:=by
    clear hL hk hsem h
    induction σ with
    | nil=>rfl
    | cons z σ ih=>
     obtain⟨p,q⟩:=z;have hin:((VM.get M' q).isSome && iv M' σ)=true:=hin
     show((VM.get M2 q).isSome && iv M2 σ)=true
     rw [a₀] at hin ⊢;rw [ha' q (hsub1 q sm)];refine⟨hin.1,ih hin.2 ?_ fun c hc=>hsub1 c (by simp at hc ⊢;exact .inr hc)⟩;unfold vq at s1 ⊢;simp only [c₃,List.all_cons,a₀] at s1;exact s1.2
   refine⟨⟨_,hback _ ⟨hx,M2,rfl,args,M0,n0,res,M1,n1,hsem,σ,bs,hL.loc ha' hsub1 hsub2,hin2,hk,s1,s2,rfl,rfl⟩,fun c hc=>?_⟩,fun c hc hcn=>?_⟩
   ·rw [get_app,get_app];have:VM.get (iI (VM.bump M2 bs) σ) c=VM.get (iI (VM.bump M' bs) σ) c:=by
     by_cases hs:c∈σ.map (·.2)
     ·rw [rM _ _ _ hs,rM _ _ _ hs]
     ·rw [jI _ _ _ hs,jI _ _ _ hs,zm (by rw [hM'];exact hc)]
    rw [this]
   ·rw [get_app,xz fun z hz=>?_]
    ·show VM.get (iI (VM.bump M' bs) σ) c=_
     rw [jI _ _ _ fun hs=>hc (hsub1 c hs),ED fun hs=>hc (hsub2 c hs),hM']
    ·unfold jA;cases hd:mV σ z.1 with
     | none=>exact fun h=>hcn h.symm
     | some d=>
      rintro rfl;exact hc (hsub1 _ (b₀.2 ⟨(z.1,d),fM hd,rfl⟩))
  ·exact h.elim
 ·exact h.elim
theorem Br (h1:dC Pg T N ents G ops false x i fx e m e1 m1) (h2:dC Pg T N ents G ops false y j fy e1 m1 e2 m2) (ha:x.apart ops y=true) (hc:Pf (qq x) (qq y)=true) (hij:i≠j) (_hi:m i=none) (hj:m j=none) :
  ∃e' m',dC Pg T N ents G ops false y j fy e m e' m'∧dC Pg T N ents G ops false x i fx e' m' e2 m2:=by
 obtain⟨rx,dx,rfl,δx,ax,rfl,nx⟩:=h1
 obtain⟨ry,dy,rfl,δy,ay,rfl,ny⟩:=h2
 obtain⟨p1,p2,p3⟩:=Oper.apart_spec ha
 have ay':nE Pg T ents G ops y e (δx.appF i m) j ry δy:=tD (hY p1) ay
 have ex: ∀{m'},nE Pg T ents G ops x e m' i rx δx→nE Pg T ents G ops x (kW y.dst ry e) m' i rx δx:=tD fun t ht=>(hY p3 t ht).symm
 have hput:=mW (e:=e) (d:=y.dst) (d':=x.dst) (r:=ry) (r':=rx) fun t h h'=>p2 t h' h
 suffices h:nE Pg T ents G ops y e m j ry δy∧nE Pg T ents G ops x e (δy.appF j m) i rx δx∧δy.appF j (δx.appF i m)=δx.appF i (δy.appF j m) from
  ⟨_,_,⟨ry,dy,rfl,δy,h.1,rfl,ny.trans (oZ (hY p1))⟩,⟨rx,dx,hput,δx,ex h.2.1,h.2.2,nx.trans (oZ fun t ht=>(hY p3 t ht).symm)⟩⟩
 have ox:=tC ax
 have oy:=tC ay'
 match hx:qq x,hy:qq y,hc with
 | 0,_,_=>
  rw [hx] at ox
  obtain rfl:δx= .none:=ox
  exact⟨ay',gV (by rw [hx];rfl) ax,rfl⟩
 | _ + 1,0,_=>
  rw [hy] at oy
  obtain rfl:δy= .none:=oy
  exact⟨gV (by rw [hy];rfl) ay',ax,rfl⟩
 | 1,1,_=>
  rw [hx] at ox
  rw [hy] at oy
  refine⟨gV (by rw [hy];rfl) ay',gV (by rw [hx];rfl) ax,?_⟩
  rcases ox with rfl | ⟨b,rfl⟩
  ·rfl
  ·rcases oy with rfl | ⟨b',rfl⟩
   ·rfl
   ·exact vT hij
 | 2,1,_=>
  rw [hx] at ox
  rw [hy] at oy
  refine⟨gV (by rw [hy];rfl) ay',?_,?_⟩
  ·rcases oy with rfl | ⟨b',rfl⟩
   ·exact ax
   ·exact kf hx (EB hj _) ax
  ·rcases oy with rfl | ⟨b',rfl⟩
   ·rfl
   ·rcases ox with rfl | ⟨l,rfl,hl⟩
    ·rfl
    ·exact(EC hj hl).symm
 | 2,2,_=>
  rw [hx] at ox
  rw [hy] at oy
  rcases ox with rfl | ⟨l,rfl,hl⟩
  ·rcases oy with rfl | ⟨l',rfl,hl'⟩
   ·exact⟨ay',ax,rfl⟩
   ·exact⟨ay',kf hx (tF _ _) ax,rfl⟩
  ·rcases oy with rfl | ⟨l',rfl,hl'⟩
   ·exact⟨kf hy (tG _ _) ay',ax,rfl⟩
   ·exact⟨kf hy (tG _ _) ay',kf hx (tF _ _) ax,Bq _ _ _⟩
 | 1,_ + 2,h=>cases h
 | 2,_ + 3,h=>cases h
 | _ + 3,_ + 1,h=>cases h
theorem zn (h:Gy Pg ents G ops o n e (VM.get M) fp r m') (ha:vd (VM.get M2) (VM.get M) fp):(∃M2',Gy Pg ents G ops o n e (VM.get M2) fp r (VM.get M2')∧∀c,VM.get M2 c=VM.get M c→VM.get M2' c=m' c)∧∀c,c ∉ fp→c≠n→m' c=VM.get M c:=by
 obtain⟨b,h1,h2,h3⟩:=h;cases b with
 | true=>
  obtain⟨⟨M2',p1,p2⟩,p3⟩:=Gz (h2 rfl) ha;exact⟨⟨M2',⟨true,h1,fun _=>p1,fun h=>nomatch h⟩,p2⟩,p3⟩
 | false=>
  obtain⟨rfl,rfl⟩:=h3 rfl;exact⟨⟨M2,⟨false,h1,fun h=>(nomatch h),fun _=>⟨rfl,rfl⟩⟩,fun _ hc=>hc⟩,fun _ _ _=>rfl⟩
theorem kh (h:dC Pg T N ents G ops rf o n fp e (VM.get M) e1 m1) (he: ∀t∈o.looksAt ops,e t=e' t) (ha: ∀c,c∈fp∨c=n→VM.get M2 c=VM.get M c) :
  ∃r,e1=kW o.dst r e∧(∃M2',dC Pg T N ents G ops rf o n fp e' (VM.get M2) (kW o.dst r e') (VM.get M2')∧∀c,c∈fp∨c=n→VM.get M2' c=m1 c):=by
 obtain⟨r,hd,rfl,h⟩:=h
 refine⟨r,rfl,?_⟩
 cases rf with
 | false=>
  obtain⟨δ,h1,rfl,rfl⟩:=h
  have hf:=vS h1
  refine⟨δ.app n M2,⟨r,hd,rfl,δ,Gx (fun c hc=>ha c (.inl (by rw [oZ he];exact hc))) (tD he h1),Dl.get_app _ _ _,(oZ he)⟩,fun c hc=>?_⟩
  rw [Dl.get_app]
  exact JJ hf ha hc
 | true=>
  obtain⟨⟨M2',p1,p2⟩,p3⟩:=zn h (M2:=M2) fun c hc=>ha c (.inl hc)
  exact⟨M2',⟨r,hd,rfl,JL he p1⟩,fun c hc=>p2 c (ha c hc)⟩
theorem fE (h:dC Pg T N ents G ops rf o n fp e (VM.get M) e1 m1) {c:Nat} (h1:c ∉ fp) (h2:c≠n):m1 c=VM.get M c:=by
 obtain⟨r,hd,rfl,h⟩:=h;cases rf with
 | false=>
  obtain⟨δ,h3,rfl,rfl⟩:=h;exact Gv (vS h3) h1 h2
 | true=>exact (zn h (M2:=M) fun _ _=>rfl).2 c h1 h2
theorem xA (h:dC Pg T N ents G ops rf o n fp e (VM.get M) e1 m1): ∃M',VM.get M'=m1:=by
 obtain⟨r,hd,rfl,h⟩:=h;cases rf with
 | false=>obtain ⟨δ,_,rfl,_⟩:=h;exact⟨δ.app n M,Dl.get_app _ _ _⟩
 | true=>
  obtain⟨b,h1,h2,h3⟩:=h;cases b with
  | false=>exact ⟨M,(h3 rfl).2.symm⟩
  | true=>
   have h:=h2 rfl;unfold vz at h;split at h
   ·split at h
    ·unfold fD rd at h;split at h
     ·obtain⟨vs,_,h⟩:=lQ h;split at h
      ·obtain⟨_,M0,_,args,M0',n0,res,M1,n1,_,σ,bs,_,_,_,_,_,_,hm⟩:=h;exact⟨_,hm⟩
      ·exact h.elim
     ·exact h.elim
    ·exact h.elim
   ·exact h.elim
def JM (a b:List Nat):Bool:=a.all fun x=>b.all fun y=> !a₆ x y
theorem GG {a b:List Nat} (h:JM a b=true): ∀c,c∈a→c ∉ b:=by
 intro c ha hb;unfold JM at h;rw [b₅] at h;have:=h c ha;rw [b₅] at this;simpa using this c hb
theorem Bs (h1:dC Pg T N ents G ops rx x i fx e (VM.get M) e1 m1) (h2:dC Pg T N ents G ops ry y j fy e1 m1 e2 m2) (ha:x.apart ops y=true) (hd:JM (i :: fx) (j :: fy)=true) :
  ∃e' m',dC Pg T N ents G ops ry y j fy e (VM.get M) e' m'∧dC Pg T N ents G ops rx x i fx e' m' e2 m2:=by
 obtain⟨p1,p2,p3⟩:=Oper.apart_spec ha
 have hdis:=GG hd
 have cy: ∀{c},(c∈fx∨c=i)→c ∉ fy∧c≠j:=fun {c} hc=>by
  have:=hdis c (by rcases hc with h | h <;> simp [h])
  simp only [b₂,not_or] at this
  exact⟨this.2,this.1⟩
 have cx: ∀{c},(c∈fy∨c=j)→c ∉ fx∧c≠i:=fun {c} hc=>by
  refine⟨fun h=>?_,fun h=>?_⟩
  ·obtain⟨q1,q2⟩:=cy (.inl h)
   exact hc.elim q1 q2
  ·obtain⟨q1,q2⟩:=cy (.inr h)
   exact hc.elim q1 q2
 obtain⟨M1,rfl⟩:=xA h1
 obtain⟨rvx,hdx,he1,h1b⟩:=h1
 have h1':dC Pg T N ents G ops rx x i fx e (VM.get M) e1 (VM.get M1):=⟨rvx,hdx,he1,h1b⟩
 subst he1
 obtain⟨rvy,rfl,M',q1,q2⟩:=kh (e':=e) (M2:=M) h2 (hY p1) fun c hc=>(fE h1' (cx hc).1 (cx hc).2).symm
 obtain⟨rvx',hx',M'',q3,q4⟩:=kh (e':=kW y.dst rvy e) (M2:=M') h1' (fun t ht=>(hY p3 t ht).symm) fun c hc=>fE q1 (cy hc).1 (cy hc).2
 have hput:=mW (e:=e) (d:=y.dst) (d':=x.dst) (r:=rvy) (r':=rvx) fun t h h'=>p2 t h' h
 refine⟨_,_,q1,?_⟩
 have hm:VM.get M''=m2:=by
  funext c
  by_cases c1:c∈fx∨c=i
  ·rw [q4 c c1,fE h2 (cy c1).1 (cy c1).2]
  ·have c1':c ∉ fx∧c≠i:=⟨fun h=>c1 (.inl h),fun h=>c1 (.inr h)⟩
   rw [fE q3 c1'.1 c1'.2]
   by_cases c2:c∈fy∨c=j
   ·exact q2 c c2
   ·have c2':c ∉ fy∧c≠j:=⟨fun h=>c2 (.inl h),fun h=>c2 (.inr h)⟩
    rw [fE q1 c2'.1 c2'.2,fE h2 c2'.1 c2'.2,fE h1' c1'.1 c1'.2]
 rw [hm] at q3
 obtain⟨r3,hd3,he3,hb3⟩:=q3
 refine⟨r3,hd3,?_,hb3⟩
 rw [hput]
 rw [← he3]
 cases hxd:x.dst with
 | none=>rfl
 | some d=>
  rw [hxd] at hx'
  have:rvx=rvx':=by
   have:=congrFun hx' d
   simpa [kW,aO] using this
  rw [this]
theorem mX (hk:qq y=0) (h:dC Pg T N ents G ops false y j fy e m e2 m2):m2=m∧∀m',dC Pg T N ents G ops false y j fy e m' e2 m':=by
 obtain⟨r,hd,rfl,δ,h3,rfl,hfp⟩:=h;have ho:=tC h3;rw [hk] at ho;obtain rfl:δ= .none:=ho;exact⟨rfl,fun m'=>⟨r,hd,rfl, .none,gV (by rw [hk];rfl) h3,rfl,hfp⟩⟩
theorem Bu (h1:dC Pg T N ents G ops rx x i fx e (VM.get M) e1 m1) (h2:dC Pg T N ents G ops false y j fy e1 m1 e2 m2) (ha:x.apart ops y=true) (hk:qq y=0) :
  ∃e' m',dC Pg T N ents G ops false y j fy e (VM.get M) e' m'∧dC Pg T N ents G ops rx x i fx e' m' e2 m2:=by
 obtain⟨p1,p2,p3⟩:=Oper.apart_spec ha
 obtain⟨rfl,hp⟩:=mX hk h2
 obtain⟨rvx,hdx,he1,h1b⟩:=h1
 have h1':dC Pg T N ents G ops rx x i fx e (VM.get M) e1 m2:=⟨rvx,hdx,he1,h1b⟩
 subst he1
 obtain⟨rvy,rfl,M',q1,_⟩:=kh (e':=e) (M2:=M) (hp (VM.get M)) (hY p1) fun _ _=>rfl
 obtain⟨hM',_⟩:=mX hk q1
 obtain⟨rvx',hx',M'',q3,q4⟩:=kh (e':=kW y.dst rvy e) (M2:=M) h1' (fun t ht=>(hY p3 t ht).symm) fun _ _=>rfl
 have hput:=mW (e:=e) (d:=y.dst) (d':=x.dst) (r:=rvy) (r':=rvx) fun t h h'=>p2 t h' h
 have hm:VM.get M''=m2:=by
  funext c
  by_cases c1:c∈fx∨c=i
  ·exact q4 c c1
  ·have c1':c ∉ fx∧c≠i:=⟨fun h=>c1 (.inl h),fun h=>c1 (.inr h)⟩
   rw [fE q3 c1'.1 c1'.2,fE h1' c1'.1 c1'.2]
 rw [hM'] at q1
 refine⟨_,_,q1,?_⟩
 rw [hm] at q3
 obtain⟨r3,hd3,he3,hb3⟩:=q3
 refine⟨r3,hd3,?_,hb3⟩
 rw [hput,← he3]
 cases hxd:x.dst with
 | none=>rfl
 | some d=>
  rw [hxd] at hx'
  have:rvx=rvx':=by
   have:=congrFun hx' d
   simpa [kW,aO] using this
  rw [this]
theorem Bv (h1:dC Pg T N ents G ops false x i fx e (VM.get M) e1 m1) (h2:dC Pg T N ents G ops ry y j fy e1 m1 e2 m2) (ha:x.apart ops y=true) (hk:qq x=0) :
  ∃e' m',dC Pg T N ents G ops ry y j fy e (VM.get M) e' m'∧dC Pg T N ents G ops false x i fx e' m' e2 m2:=by
 obtain⟨p1,p2,p3⟩:=Oper.apart_spec ha
 obtain⟨rfl,hp⟩:=mX hk h1
 obtain⟨rvx,hdx,he1,h1b⟩:=h1
 have h1':dC Pg T N ents G ops false x i fx e (VM.get M) e1 (VM.get M):=⟨rvx,hdx,he1,h1b⟩
 subst he1
 obtain⟨rvy,rfl,M',q1,q2⟩:=kh (e':=e) (M2:=M) h2 (hY p1) fun _ _=>rfl
 obtain⟨rvx',hx',M'',q3,_⟩:=kh (e':=kW y.dst rvy e) (M2:=M) h1' (fun t ht=>(hY p3 t ht).symm) fun _ _=>rfl
 obtain⟨hM'',q5⟩:=mX hk q3
 have hput:=mW (e:=e) (d:=y.dst) (d':=x.dst) (r:=rvy) (r':=rvx) fun t h h'=>p2 t h' h
 have hm:VM.get M'=m2:=by
  funext c
  by_cases c1:c∈fy∨c=j
  ·exact q2 c c1
  ·have c1':c ∉ fy∧c≠j:=⟨fun h=>c1 (.inl h),fun h=>c1 (.inr h)⟩
   rw [fE q1 c1'.1 c1'.2,fE h2 c1'.1 c1'.2]
 rw [hm] at q1
 refine⟨_,_,q1,?_⟩
 obtain⟨r3,hd3,he3,hb3⟩:=q5 m2
 refine⟨r3,hd3,?_,hb3⟩
 rw [hput,← he3]
 cases hxd:x.dst with
 | none=>rfl
 | some d=>
  rw [hxd] at hx'
  have:rvx=rvx':=by
   have:=congrFun hx' d
   simpa [kW,aO] using this
  rw [this]
end
end
section
structure km (N:Nat) (w0:World) (ex0:El) (P0:bT) (e:Nat→Option MV) (m:FM) (F:Nat→Prop) (a:Act) (w:World):Prop where
 ex: ∃P adr,aX w P adr m∧gw w P adr e a∧(∀c,F c→adr c=none)∧iP w0 ex0 P0 w P adr∧(∀b o,P b o→P0 b o∨w0.heap.size≤b∨ex0.ex b)
 fresh: ∀c,F c→m c=none
 ge: ∀c,F c→ex0.n0≤c
 since:cG ex0.ex w0 w
 defers:a.defers= []
 size:a.tmps.size=N
section
variable {Pg:Program} {T:bB} {N:Nat} {ents:List FuncId} {G:GS} {w0 w w':World} {ex0:El} {P0 P:bT} {adr:fV} {e e':Nat→Option MV} {m m':FM} {n:Nat} {F F':Nat→Prop} {a:Act} {r:MV} {u:Value} {δ:Dl} {ops:Array Oper} {o:Oper}
theorem oQ.toS (h:oQ N w0 ex0 P0 e m n a w):km N w0 ex0 P0 e m (n≤·) a w:=⟨h.ex,h.fresh,fun _ hc=>c₉ h.ge hc,h.since,h.defers,h.size⟩
theorem km.toSim (h:km N w0 ex0 P0 e m F a w) (hn: ∀c,n≤c→F c):oQ N w0 ex0 P0 e m n a w:=by
 obtain⟨P,adr,h1,h2,h3,h4,h5⟩:=h.ex;exact⟨⟨P,adr,h1,h2,fun c hc=>h3 c (hn c hc),h4,h5⟩,fun c hc=>h.fresh c (hn c hc),h.ge n (hn n (b₄ _)),h.since,h.defers,h.size⟩
theorem JN (hS:jZ Pg T ents G w0 ex0) (h:kV Pg T ents G o e m n r δ) (hI:aX w P adr m) (hn:adr n=none) (hf:m n=none) (hE:gw w P adr e a) (hs:cG ex0.ex w0 w)
  {next:Act→World→Prop} {Q:Exit→Act→World→Prop} (hK: ∀u w',bI w P adr m n r δ u w'→next (a.put o.dst u) w'):o.wp Pg a w next Q:=by
 have plain:(iH Pg T e m n o).runP (fun x=>x=(r,δ))→o.wp Pg a w next Q:=by
  intro h
  obtain⟨r',δ',hk,hr⟩:=Gj hS.seat.tab hI hn hf hE h
  injection hk with hk1 hk2
  subst hk1;subst hk2
  unfold Oper.wp
  rcases hr with ⟨u,w',h1,h2⟩ | ⟨w',h1,h2⟩
  ·rw [h1];exact hK u w' h2
  ·rw [h1];exact hK undef w' h2
 obtain⟨dst,op,ty,pos,after,guard⟩:=o
 cases op with
 | call c=>
  obtain⟨callee,args,ats⟩:=c
  cases callee with
  | builtin b=>exact plain h
  | invoke r n=>exact plain h
  | value f=>
   replace h:(gJ e m f args.toList).runP fun x=>ents.contains x.1=true∧aE Pg G x.1 x.2.1 r∧δ= .bump x.2.2∧∀c∈x.2.2,m c.1≠none:=h
   unfold gJ at h
   obtain⟨pf,h,hpf⟩:=bH hE h
   obtain⟨ps,h,hps⟩:=iX hE h
   cases pf with
   | fn f0 caps=>
    replace h:=bj.bind_runP.1 h
    generalize hu:a.eval f=uf at hpf
    cases hpf with
    | val cs hfn=>
     cases hfn with
     | fn parts hpl hpr=>
      have hall:=hps.app (dq.of_parts hpl hpr)
      obtain⟨l',bs,h,P',h1,h2,h3,h4⟩:=qA h hall hI
      obtain⟨hc,hsem,rfl,_⟩:=h
      replace hc:ents.contains f0=true:=hc
      replace hsem:aE Pg G f0 l' r:=hsem
      have hrun:(execOp a.eval ⟨dst, .call ⟨.value f,args,ats⟩,ty,pos,after,guard⟩).run Pg w= .ok (.enter f0 (args.toList.map a.eval ++ c₆ valM caps parts).toArray) w:=by
       have he:=hS.seat.enters f0 (by simpa using hc) (args.toList.map a.eval ++ c₆ valM caps parts).toArray w
       rw [← he]
       have hmap:args.map a.eval=(args.toList.map a.eval).toArray:=jH _ _
       simp [execOp,resolve,hu,valM,MV.isAgg,Deferred.ofValue,invoke,hmap]
      unfold Oper.wp
      rw [hrun]
      refine(hsem w P' _ (hS.good w hs) h1.prot h4).mono ?_
      rintro e w' ⟨v,rfl,h5,h6⟩
      refine hK v w' ⟨iU w w' P',adr,?_,by exact h1.below h6,h2.trans (bG.below h1.prot h6),fun _ _=>rfl,fun g hg=>(by rw [hn] at hg;cases hg),(cG.of_below h6).weak fun _ e=>e.elim,fun b o hb=>?_⟩
      ·exact h5.keep ⟨fun _ _ h=>h,fun _ _ _=>rfl,fun _ _ h=>(nomatch h),fun _ _ _ _ h=>nomatch h⟩
      ·rcases hb with hb | hb
       ·rcases h3 b o hb with hb | hb
        ·exact .inl hb
        ·exact .inr (.inr hb)
       ·exact .inr (.inl hb.1)
   | _=>exact h.elim
 | _=>exact plain h
theorem Bw: ∀{l:List (Nat×Nat)} {m:FM} {c:Nat},m c=none→dk m l c=none:=by
 intro l m c h;rw [bumpF_get,h];rfl
theorem vV {c:Nat} (h:m c=none) (hc:c≠n):δ.appF n m c=none:=by
 cases δ with
 | none=>exact h
 | new b=>show aO _ _ _ c=none;rw [aJ _ _ hc];exact h
 | upd c' l=>
  show(match m c' with | some b=>aO m c' { b with l:=l } | none=>m) c=none
  cases hb:m c' with
  | none=>exact h
  | some b=>
   show aO _ c' _ c=none
   rw [aJ]
   ·exact h
   ·rintro rfl;rw [h] at hb;cases hb
 | mv c' b=>
  show aO _ _ _ c=none
  rw [aJ _ _ hc];unfold iT;split
  ·rfl
  ·exact h
 | bump l=>exact Bw h
theorem km.post (hs:km N w0 ex0 P0 e m F a w) (_hI:aX w P adr m) (hE:gw w P adr e a) (hn: ∀c,F c→adr c=none) (hg:iP w0 ex0 P0 w P adr) (hp: ∀b o,P b o→P0 b o∨w0.heap.size≤b∨ex0.ex b)
  (hpo:bI w P adr m n r δ u w') {dst:Option Tmp} (hd: ∀d,dst=some d→d < N) (hFn:F n) (hF: ∀c,F' c→F c∧c≠n):km N w0 ex0 P0 (kW dst r e) (δ.appF n m) F' (a.put dst u) w':=by
 obtain⟨P',adr',h1,h2,h3,h4,h5,h6,h7⟩:=hpo
 have hE':gw w' P' adr' e a:=fun t v ht=>by
  obtain⟨u,e1,e2⟩:=hE t v ht
  exact⟨u,e1,e2.keep h3⟩
 have hsize:=hs.since.size
 have common: ∀{e':Nat→Option MV} {a':Act},gw w' P' adr' e' a'→a'.defers= [] →a'.tmps.size=N→km N w0 ex0 P0 e' (δ.appF n m) F' a' w':=by
  intro e' a' e1 e2 e3
  refine⟨⟨P',adr',h2,e1,fun c hc=>?_,⟨fun c g hc=>?_,fun c hc=>(h4 c (by have:=hs.ge n hFn;omega)).trans (hg.old c hc),hg.keep.trans h3⟩,fun b o ho=>?_⟩,fun c hc=>?_,fun c hc=>hs.ge c (hF c hc).1,?_,e2,e3⟩
  ·rw [h4 c (hF c hc).2];exact hn c (hF c hc).1
  ·by_cases e:c=n
   ·subst e
    rcases h5 g hc with h | ⟨c',h⟩
    ·exact .inl (c₉ hsize h)
    ·exact hg.in_ c' g h
   ·rw [h4 c e] at hc;exact hg.in_ c g hc
  ·rcases h7 b o ho with h | h | ⟨c',h⟩
   ·exact hp b o h
   ·exact .inr (.inl (c₉ hsize h))
   ·rcases hg.in_ c' b h with h | h
    ·exact .inr (.inl h)
    ·exact .inr (.inr h)
  ·exact vV (hs.fresh c (hF c hc).1) (hF c hc).2
  ·exact⟨h6.os.trans hs.since.os,h6.tape.trans hs.since.tape,h6.output.trans hs.since.output,c₉ hsize h6.size,fun b hb hne=>(h6.block b (Nat.lt_of_lt_of_le hb hsize) (fun⟨c,hc⟩=>by
    rcases hg.in_ c b hc with h | h
    ·omega
    ·exact hne h)).trans (hs.since.block b hb hne)⟩
 cases dst with
 | none=>exact common hE' hs.defers hs.size
 | some d=>
  have hd':=hd d rfl
  refine common ?_ hs.defers (by simp [Act.put,hs.size])
  intro t v ht
  simp only [Act.put,Array.getElem?_setIfInBounds]
  replace ht:aO e d r t=some v:=ht
  unfold aO at ht
  split at ht
  ·rename_i e
   subst e
   injection ht with ht
   subst ht
   exact⟨u,by simp [hs.size,hd'],h1⟩
  ·rename_i hne
   rw [if_neg fun h=>hne h.symm]
   exact hE' t v ht
theorem km.put (hd:a.defers= []) (hz:a.tmps.size=N) {w':World} {P':bT} {adr':fV} (hI:aX w' P' adr' m') (hE:gw w' P' adr' e a) (hr:aK w' P' adr' r u) (h1: ∀c,F' c→adr' c=none) (h2:iP w0 ex0 P0 w' P' adr')
  (h3: ∀b o,P' b o→P0 b o∨w0.heap.size≤b∨ex0.ex b) (h4: ∀c,F' c→m' c=none) (h5: ∀c,F' c→ex0.n0≤c) (h6:cG ex0.ex w0 w') {dst:Option Tmp} (hdl: ∀d,dst=some d→d < N):km N w0 ex0 P0 (kW dst r e) m' F' (a.put dst u) w':=by
 cases dst with
 | none=>exact ⟨⟨P',adr',hI,hE,h1,h2,h3⟩,h4,h5,h6,hd,hz⟩
 | some d=>
  have hd':=hdl d rfl
  refine⟨⟨P',adr',hI,fun t v ht=>?_,h1,h2,h3⟩,h4,h5,h6,hd,by simp [Act.put,hz]⟩
  simp only [Act.put,Array.getElem?_setIfInBounds]
  replace ht:aO e d r t=some v:=ht
  unfold aO at ht
  split at ht
  ·rename_i e
   subst e
   injection ht with ht
   subst ht
   exact⟨u,by simp [hz,hd'],hr⟩
  ·rename_i hne
   rw [if_neg fun h=>hne h.symm]
   exact hE t v ht
theorem EE (hS:jZ Pg T ents G w0 ex0) {rf:Bool} {fp:List Nat} {next:Act→World→Prop} {Q:Exit→Act→World→Prop} (hs:km N w0 ex0 P0 e m F a w) (hn:F n) (hF: ∀c,F' c→F c∧c≠n)
  (h:dC Pg T N ents G ops rf o n fp e m e' m') (hk: ∀a w,km N w0 ex0 P0 e' m' F' a w→next a w) :
  if Region.wanted o (yielded ops a.tmps) then o.wp Pg a w next Q∨(o.asks Pg a w∧LetsOut Q) else next (a.put o.dst undef) w:=by
 obtain⟨r,hd,rfl,h⟩:=h
 obtain⟨P,adr,hI,hE,ha1,ha2,ha3⟩:=hs.ex
 have wanted: ∀{b},Bm ops o e=some b→Region.wanted o (yielded ops a.tmps)=b:=by
  intro b hb
  unfold Bm at hb
  split at hb
  ·rename_i hg
   injection hb with hb
   simp [Region.wanted,hg,← hb]
  ·rename_i j want hg
   split at hb
   ·cases hb
   ·rename_i s hj
    split at hb
    ·rename_i t ht
     injection hb with hb
     obtain⟨v,hv1,hv2⟩:=hE s _ ht
     have hv:=hv2.bool_
     subst hv
     have hy:yielded ops a.tmps j=some t:=by simp [yielded,hj,hv1]
     simp only [Region.wanted,hg,hy,← hb]
     cases t <;> cases want <;> rfl
    ·rename_i ht
     injection hb with hb
     obtain⟨v,hv1,hv2⟩:=hE s _ ht
     have hv:v=undef:=hv2.undef_
     subst hv
     have hy:yielded ops a.tmps j=none:=by simp [yielded,hj,hv1,undef]
     simp [Region.wanted,hg,hy,← hb]
    ·cases hb
 cases rf with
 | false=>
  obtain⟨δ,⟨b,hb,h1,h2⟩,rfl,_⟩:=h
  rw [wanted hb]
  cases b with
  | true=>
   rw [if_pos rfl]
   refine .inl (JN hS (h1 rfl) hI (ha1 n hn) (hs.fresh n hn) hE hs.since fun u w' hp=>hk _ _ ?_)
   exact hs.post hI hE ha1 ha2 ha3 hp hd hn hF
  | false=>
   rw [if_neg sm]
   obtain⟨rfl,rfl⟩:=h2 rfl
   exact hk _ _ (hs.post (δ:= .none) hI hE ha1 ha2 ha3 (bI.pure hI (ha1 n hn) .undef) hd hn hF)
 | true=>
  obtain⟨b,hb,h1,h2⟩:=h
  rw [wanted hb]
  cases b with
  | false=>
   rw [if_neg sm]
   obtain⟨rfl,rfl⟩:=h2 rfl
   exact hk _ _ (hs.post (δ:= .none) hI hE ha1 ha2 ha3 (bI.pure hI (ha1 n hn) .undef) hd hn hF)
  | true=>
   rw [if_pos rfl]
   have h:=h1 rfl
   obtain⟨dst,op,ty,pos,after,guard⟩:=o
   unfold vz at h
   cases op with
   | call c=>
    obtain⟨callee,args,ats⟩:=c
    cases callee with
    | value f=>
     replace h:(fD e f args.toList).runP fun x=>ents.contains x.1=true∧∃M,VM.get M=m∧lO Pg G M n x.1 x.2 fp fun r' M'=>r'=r∧VM.get M'=m':=h
     unfold fD at h
     obtain⟨pf,h,hpf⟩:=bH hE h
     obtain⟨ps,h,hps⟩:=iX hE h
     cases pf with
     | fn f0 caps=>
      generalize hu:a.eval f=uf at hpf
      cases hpf with
      | val cs hfn=>
       cases hfn with
       | fn parts hpl hpr=>
        have hall:=hps.app (dq.of_parts hpl hpr)
        replace h:ents.contains f0=true∧∃M,VM.get M=m∧lO Pg G M n f0 (ps ++ caps) fp fun r' M'=>r'=r∧VM.get M'=m':=h
        obtain⟨hc,M,rfl,hz⟩:=h
        have hrun:(execOp a.eval ⟨dst, .call ⟨.value f,args,ats⟩,ty,pos,after,guard⟩).run Pg w= .ok (.enter f0 (args.toList.map a.eval ++ c₆ valM caps parts).toArray) w:=by
         have he:=hS.seat.enters f0 (by simpa using hc) (args.toList.map a.eval ++ c₆ valM caps parts).toArray w
         rw [← he]
         have hmap:args.map a.eval=(args.toList.map a.eval).toArray:=jH _ _
         simp [execOp,resolve,hu,valM,MV.isAgg,Deferred.ofValue,invoke,hmap]
        refine .inl ?_
        unfold Oper.wp
        rw [hrun]
        refine(Eo hS hz hs.since (hs.fresh n hn) (hs.ge n hn) (ha1 n hn) hI hE ha2 ha3 hall).mono ?_
        rintro e w' ⟨v,rfl,r',M',⟨rfl,rfl⟩,P',adr1,q1,q2,q3,q8,q4,q5,q6,q7⟩
        exact hk _ _ (km.put hs.defers hs.size q1 q2 q3 (fun c hc=>(q8 c (hF c hc).2).trans (ha1 c (hF c hc).1)) q4 q5 (fun c hc=>q6 c (hF c hc).2 (hs.fresh c (hF c hc).1)) (fun c hc=>hs.ge c (hF c hc).1) q7 hd)
     | _=>exact h.elim
    | _=>exact h.elim
   | _=>exact h.elim
end
end
section
section
variable (Pg:Program) (T:bB) (N:Nat) (ents:List FuncId) (G:GS)
structure xB where
 k:Nat
 n:Nat
 rf:Bool
 fp:List Nat
def GH (ops:Array Oper):List xB→(Nat→Option MV)→FM→(Nat→Option MV)→FM→Prop
 | [],e,m,e',m'=>e=e'∧m=m'
 | x :: L,e,m,e',m'=> ∃o e1 m1,ops[x.k]? =some o∧dC Pg T N ents G ops x.rf o x.n x.fp e m e1 m1∧GH ops L e1 m1 e' m'
end
def GI (x y:xB) (a b:Oper):Bool:=(!x.rf && !y.rf && Pf (qq a) (qq b)) || (JM (x.n :: x.fp) (y.n :: y.fp) || (!y.rf && a₆ (qq b) 0 || !x.rf && a₆ (qq a) 0))
def NG (ops:Array Oper) (x y:xB):Bool:=match ops[x.k]?,ops[y.k]? with
 | some a,some b=>((a.apart ops b && GI x y a b) || te ops 8 y.k x.k) && a.after.toList.all (fun e=> !Region.binds .any e || !a₆ e.on y.k) && !a₆ x.k y.k
 | _,_=>false
def NH (ops:Array Oper) (x:Nat):Bool:=match ops[x]? with
 | some a=>a.after.toList.all fun e=> !Region.binds .any e || (a₄ e.on ops.size && !a₆ e.on x)
 | none=>false
def JO (ops:Array Oper):List xB→Bool
 | [] =>true
 | x :: L=>NH ops x.k && L.all (fun y=>NG ops x y) && JO ops L
def gK (ops:Array Oper) (L:List xB):Bool:=JO ops L && (b₉ ops.size).all (fun k=>(L.map (·.k)).contains k) && d₃ L.length ops.size
theorem vX {ops:Array Oper}: ∀{L:List xB},JO ops L=true→L.Pairwise (fun x y=>NG ops x y=true)∧∀x∈L,NH ops x.k=true
 | [],_=>⟨.nil,fun _ h=>nomatch h⟩
 | x :: L,h=>by
  simp only [JO,a₀,b₅] at h
  obtain⟨h1,h2⟩:=vX h.2
  refine⟨.cons h.1.2 h1,fun y hy=>?_⟩
  rcases b₂.1 hy with rfl | hy
  ·exact h.1.1
  ·exact h2 y hy
section
variable {Pg:Program} {T:bB} {N:Nat} {ents:List FuncId} {G:GS} {ops:Array Oper} {e e':Nat→Option MV} {m m':FM} {listed:Array Bool}
theorem EF {x y:xB} {a b:Oper} {e1 e2:Nat→Option MV} {m1 m2:FM} (hm: ∃M,VM.get M=m) (h1:dC Pg T N ents G ops x.rf a x.n x.fp e m e1 m1) (h2:dC Pg T N ents G ops y.rf b y.n y.fp e1 m1 e2 m2) (ha:a.apart ops b=true) (hc:GI x y a b=true) (hij:x.n≠y.n) (hi:m x.n=none) (hj:m y.n=none) :
  ∃e' m',dC Pg T N ents G ops y.rf b y.n y.fp e m e' m'∧dC Pg T N ents G ops x.rf a x.n x.fp e' m' e2 m2:=by
 obtain⟨M,rfl⟩:=hm
 unfold GI at hc
 rw [c₈] at hc
 rcases hc with hc | hc
 ·simp only [a₀,b₃] at hc
  obtain⟨⟨q1,q2⟩,q3⟩:=hc
  rw [q1] at h1 ⊢
  rw [q2] at h2 ⊢
  exact Br h1 h2 ha q3 hij hi hj
 ·rw [c₈] at hc
  rcases hc with hc | hc
  ·exact Bs h1 h2 ha hc
  ·rw [c₈] at hc
   rcases hc with hc | hc
   ·simp only [a₀,b₃] at hc
    obtain⟨q1,q2⟩:=hc
    rw [q1] at h2 ⊢
    exact Bu h1 h2 ha (c₅ q2)
   ·simp only [a₀,b₃] at hc
    obtain⟨q1,q2⟩:=hc
    rw [q1] at h1 ⊢
    exact Bv h1 h2 ha (c₅ q2)
theorem tH {o:Oper} {rf:Bool} {fp:List Nat} {n c:Nat} (hm0: ∃M,VM.get M=m) (h:dC Pg T N ents G ops rf o n fp e m e' m') (hm:m c=none) (hc:c≠n):m' c=none:=by
 obtain⟨r,_,_,h⟩:=h;cases rf with
 | false=>obtain ⟨δ,_,rfl,_⟩:=h;exact vV hm hc
 | true=>
  obtain⟨M0,rfl⟩:=hm0;obtain⟨b,h1,h2,h3⟩:=h;cases b with
  | false=>rw [(h3 rfl).2];exact hm
  | true=>
   have h:=h2 rfl;unfold vz at h;split at h
   ·split at h
    ·unfold fD rd at h;split at h
     ·obtain⟨vs,_,h⟩:=lQ h;split at h
      ·obtain⟨_,M,hM,args,M0',n0,res,M1,n1,_,σ,bs,hL,hin,hk,_,_,_,hm'⟩:=h;rw [← hm',get_app,xz fun z hz=>?_]
       ·cases hx:VM.get (iI (VM.bump M bs) σ) c with
        | none=>rfl
        | some b=>
         obtain⟨h4,_⟩:=lP σ _ c b hx;obtain⟨b',h5⟩:=oV h4;rw [hM,hm] at h5;cases h5
       ·unfold jA;cases hd:mV σ z.1 with
        | none=>exact fun h=>hc h.symm
        | some d=>
        rintro rfl;obtain⟨b',hb'⟩:=gU hin z.1 d (fM hd);rw [hM,hm] at hb';cases hb'
      ·exact h.elim
     ·exact h.elim
    ·exact h.elim
   ·exact h.elim
theorem tI: ∀{L1:List xB} {L2:List xB} {k:xB} {e:Nat→Option MV} {m:FM},(∃M,VM.get M=m)→GH Pg T N ents G ops (L1 ++ k :: L2) e m e' m'→
  (∀x∈L1,∃a b,ops[x.k]? =some a∧ops[k.k]? =some b∧a.apart ops b=true∧GI x k a b=true)→(∀x∈L1,x.n≠k.n∧m x.n=none)→m k.n=none→(L1.map (·.n)).Nodup→
  ∃o e1 m1,ops[k.k]? =some o∧dC Pg T N ents G ops k.rf o k.n k.fp e m e1 m1∧GH Pg T N ents G ops (L1 ++ L2) e1 m1 e' m'
 | [],_,_,_,_,_,h,_,_,_,_=>h
 | x :: L1,L2,k,e,m,hv,h,hc,hn,hk,hd=>by
  obtain⟨o,e1,m1,h1,h2,h3⟩:=h
  obtain⟨hx1,hx2⟩:=hn x sm
  obtain⟨hd1,hd2⟩:=d₆.1 hd
  have hv1: ∃M,VM.get M=m1:=by obtain⟨M,rfl⟩:=hv;exact xA h2
  obtain⟨o',e2,m2,h4,h5,h6⟩:=tI hv1 h3 (fun y hy=>hc y (by simp [hy])) (fun y hy=>⟨(hn y (by simp [hy])).1,tH hv h2 (hn y (by simp [hy])).2 fun h=>hd1 (b₀.2 ⟨y,hy,h⟩)⟩) (tH hv h2 hk hx1.symm) hd2
  obtain⟨a,b,p1,p2,p3,p4⟩:=hc x sm
  rw [h1] at p1;injection p1 with p1;subst p1
  rw [h4] at p2;injection p2 with p2;subst p2
  obtain⟨e3,m3,q1,q2⟩:=EF hv h2 h5 p3 p4 hx1 hx2 hk
  exact⟨o',e3,m3,h4,q1,o,e2,m2,h1,q2,h6⟩
def CL (ops:Array Oper) (listed:Array Bool):Prop:= ∀k o,ops[k]? =some o→listed.getD k false=true→∀e∈o.after.toList,Region.binds .any e=true→listed.getD e.on false=true
theorem rN (hc:CL ops listed) {x:Nat} (hx:listed.getD x false=false): ∀(f y:Nat) (o:Oper),ops[y]? =some o→(∀e∈o.after.toList,Region.binds .any e=true→listed.getD e.on false=true)→te ops f y x=false
 | 0,_,_,_,_=>rfl
 | f + 1,y,o,h1,h2=>by
  unfold te
  rw [h1]
  show(o.after.toList.any _)=false
  rw [List.any_eq_false]
  intro e he
  cases hb:Region.binds .any e with
  | false=>simp
  | true=>
   have hl:=h2 e he hb
   have hne:a₆ e.on x=false:=by
    cases hh:a₆ e.on x with
    | false=>rfl
    | true=>rw [c₅ hh,hx] at hl;cases hl
   cases ho:ops[e.on]? with
   | none=>
    have:te ops f e.on x=false:=by
     cases f with
     | zero=>rfl
     | succ f=>unfold te;rw [ho]
    simp [hne,this]
   | some o'=>
    have:=rN hc hx f e.on o' ho (hc _ _ ho hl)
    simp [hne,this]
theorem zo {l:Array Bool} {i k:Nat} {d:Bool} (hi:i < l.size):(l.setIfInBounds i true).getD k d=if i=k then true else l.getD k d:=by
 by_cases h:i=k
 ·subst h;simp [Array.getD,hi]
 ·simp [Array.getD_eq_getD_getElem?,h]
theorem vY {i:Nat} (h:i∈Region.ready .any ops listed):listed.getD i true=false∧∃o,ops[i]? =some o∧∀e∈o.after.toList,Region.binds .any e=true→listed.getD e.on false=true:=by
 simp only [Region.ready,f₇,c₂,a₀,b₃] at h;obtain⟨h1,h2,h3⟩:=h;have ho:ops[i]? =some ops[i] :=by simp [h1]
 refine⟨h2,ops[i],ho,fun e he hb=>?_⟩;rw [ho] at h3;simp only [f₈,f₂,Array.all_eq_true'] at h3;have:=h3 e (by simpa using he);simpa [hb] using this
theorem GJ {i:Nat} {o:Oper} (h1:listed.getD i true=false) (h2:ops[i]? =some o) (h3: ∀e∈o.after.toList,Region.binds .any e=true→listed.getD e.on false=true):i∈Region.ready .any ops listed:=by
 simp only [Region.ready,f₇,c₂,a₀,b₃];refine⟨(Array.getElem?_eq_some_iff.1 h2).1,h1,?_⟩;rw [h2];simp only [f₈,f₂,Array.all_eq_true'];intro e he;cases hb:Region.binds .any e with
 | false=>rfl
 | true=>simp [h3 e (by simpa using he) hb]
end
end
section
section
variable {Pg:Program} {T:bB} {N:Nat} {ents:List FuncId} {G:GS} {ops:Array Oper} {e':Nat→Option MV} {m':FM} {w0:World} {ex0:El} {P0:bT} {Q:Exit→Act→World→Prop} {Z:Nat→Prop}
theorem sA {x y:xB} (h:NG ops x y=true): ∃a b,ops[x.k]? =some a∧ops[y.k]? =some b∧((a.apart ops b=true∧GI x y a b=true)∨te ops 8 y.k x.k=true)∧(∀e∈a.after.toList,Region.binds .any e=true→e.on≠y.k)∧x.k≠y.k:=by
 unfold NG at h;split at h
 ·rename_i a b ha hb;simp only [a₀,c₈,b₅,b₃] at h;obtain⟨⟨h1,h2⟩,h3⟩:=h;refine⟨a,b,ha,hb,h1,fun e he hbd hh=>?_,fun hh=>?_⟩
  ·rcases h2 e he with h | h
   ·rw [hbd] at h;cases h
   ·rw [hh] at h;simp at h
  ·rw [hh] at h3;simp at h3
 ·cases h
theorem CM {x:Nat} (h:NH ops x=true): ∃a,ops[x]? =some a∧∀e∈a.after.toList,Region.binds .any e=true→e.on < ops.size∧e.on≠x:=by
 unfold NH at h;split at h
 ·rename_i a ha;simp only [b₅,c₈,a₀,b₃] at h;refine⟨a,ha,fun e he hb=>?_⟩;rcases h e he with h | ⟨h1,h2⟩
  ·rw [hb] at h;cases h
  ·refine⟨by simpa [e₁] using h1,fun hh=>?_⟩;subst hh;simp at h2
 ·cases h
theorem zp {l:Array Bool} {k:Nat} {d d':Bool} (h:k < l.size):l.getD k d=l.getD k d':=by simp [Array.getD,h]
theorem L4 (hS:jZ Pg T ents G w0 ex0) (hQ: ∀a w,km N w0 ex0 P0 e' m' Z a w→Q .normal a w): ∀(fuel:Nat) (L:List xB) {listed:Array Bool} {e:Nat→Option MV} {m:FM} {a:Act} {w:World},
  (∃M,VM.get M=m)→GH Pg T N ents G ops L e m e' m'→L.Pairwise (fun x y=>NG ops x y=true)→(∀x∈L,NH ops x.k=true)→(L.map (·.n)).Nodup→(∀x∈L,¬ Z x.n)→
  km N w0 ex0 P0 e m (fun c=>c∈L.map (·.n)∨Z c) a w→(∀k,k < ops.size→(listed.getD k true=false↔k∈L.map (·.k)))→listed.size=ops.size→CL ops listed→L.length≤fuel→wpAny Pg .any ops Q fuel listed a w:=by
 intro fuel
 induction fuel with
 | zero=>
  intro L listed e m a w hv hr hP hA hD hZ hs hl hsz hc hlen
  obtain rfl:L= [] :=List.length_eq_zero_iff.1 om
  obtain⟨rfl,rfl⟩:=hr
  refine wpAny_done (List.eq_nil_iff_forall_not_mem.2 fun i hi=>?_) (hQ a w (by simpa using hs)) 0
  obtain⟨h1,o,h2,_⟩:=vY hi
  exact absurd ((hl i (Array.getElem?_eq_some_iff.1 h2).1).1 h1) sm
 | succ fuel ih=>
  intro L listed e m a w hv hr hP hA hD hZ hs hl hsz hc hlen
  have hunl: ∀x∈L,listed.getD x.k true=false∧listed.getD x.k false=false:=by
   intro x hx
   obtain⟨o,ho,_⟩:=CM (hA x hx)
   have hlt:=(Array.getElem?_eq_some_iff.1 ho).1
   have h1:=(hl x.k hlt).2 (b₁ hx)
   exact⟨h1,by rw [zp (d':=true) om];exact h1⟩
  refine⟨fun h0=>?_,fun i hi=>?_⟩
  ·cases L with
   | nil=>
    obtain⟨rfl,rfl⟩:=hr
    exact hQ a w (by simpa using hs)
   | cons x L=>
    exfalso
    obtain⟨o,ho,h2⟩:=CM (hA x sm)
    have:x.k∈Region.ready .any ops listed:=GJ (hunl x sm).1 ho fun ed he hb=>by
     obtain⟨h3,h4⟩:=h2 ed he hb
     rw [zp (d':=true) om]
     cases hh:listed.getD ed.on true with
     | true=>rfl
     | false=>
      exfalso
      have:=(hl ed.on h3).1 hh
      simp only [c₃,b₂] at this
      rcases this with h5 | h5
      ·exact h4 h5
      ·obtain⟨y,hy,hyk⟩:=b₀.1 h5
       obtain⟨a',b',p1,p2,p3,p4,p5⟩:=sA ((e₆.1 hP).1 y hy)
       rw [ho] at p1
       injection p1 with p1
       subst p1
       exact p4 ed he hb hyk.symm
    rw [h0] at this
    cases this
  ·obtain⟨h1,o,ho,hready⟩:=vY hi
   have hlt:=(Array.getElem?_eq_some_iff.1 ho).1
   have hmem:=(hl i hlt).1 h1
   obtain⟨k,hk,rfl⟩:=b₀.1 hmem
   obtain⟨L1,L2,rfl⟩:=List.append_of_mem hk
   simp only [d₇,c₃] at hD
   have hP1:=e₃.1 hP
   have hD1:=e₉.1 hD
   have hD2:=d₆.1 hD1.2.1
   have hP2:=e₆.1 hP1.2.1
   have hne1: ∀x∈L1,x.n≠k.n:=fun x hx=>hD1.2.2 _ (b₁ hx) _ sm
   have hne2: ∀x∈L2,x.n≠k.n:=fun x hx hh=>hD2.1 (hh▸b₁ (f:=(·.n)) hx)
   obtain⟨o',e1,m1,p1,p2,p3⟩:=tI hv hr (fun x hx=>by
     obtain⟨a',b',q1,q2,q3,_⟩:=sA (hP1.2.2 x hx k sm)
     refine⟨a',b',q1,q2,?_⟩
     rcases q3 with q3 | q3
     ·exact q3
     ·rw [rN hc (hunl x (by simp [hx])).2 8 k.k o ho hready] at q3;cases q3)
    (fun x hx=>⟨hne1 x hx,hs.fresh _ (.inl (b₁ (by simp [hx])))⟩) (hs.fresh _ (.inl (b₁ sm))) hD1.1
   rw [ho] at p1
   injection p1 with p1
   subst p1
   have hv1: ∃M,VM.get M=m1:=by obtain⟨M,rfl⟩:=hv;exact xA p2
   unfold wpOp
   rw [ho]
   refine EE (F':=fun c=>c∈(L1 ++ L2).map (·.n)∨Z c) hS hs (.inl (b₁ sm)) (fun c hc'=>?_) p2 fun a' w' hs'=>?_
   ·rcases hc' with hc' | hc'
    ·obtain⟨x,hx,rfl⟩:=b₀.1 hc'
     rcases c₄.1 hx with hx | hx
     ·exact⟨.inl (b₁ (by simp [hx])),hne1 x hx⟩
     ·exact⟨.inl (b₁ (by simp [hx])),hne2 x hx⟩
    ·exact⟨.inr hc',fun hh=>hZ k hk (hh▸hc')⟩
   ·have hnk: ∀j,j∈(L1 ++ L2).map (·.k)→k.k≠j:=by
     intro j hj
     obtain⟨y,hy,rfl⟩:=b₀.1 hj
     rcases c₄.1 hy with hy | hy
     ·obtain⟨_,_,_,_,_,_,q⟩:=sA (hP1.2.2 y hy k sm);exact fun h=>q h.symm
     ·obtain⟨_,_,_,_,_,_,q⟩:=sA (hP2.1 y hy);exact q
    refine ih (L1 ++ L2) hv1 p3 ?_ (fun x hx=>hA x ?_) ?_ (fun x hx=>hZ x ?_) hs' (fun j hj=>?_) (by simpa using hsz) ?_ ?_
    ·exact e₃.2 ⟨hP1.1,hP2.2,fun x hx y hy=>hP1.2.2 x hx y (by simp only [b₂];exact .inr hy)⟩
    ·rcases c₄.1 hx with hx | hx <;> simp [hx]
    ·rw [d₇]
     exact e₉.2 ⟨hD1.1,hD2.2,fun x hx y hy=>hD1.2.2 x hx y (by simp only [b₂];exact .inr hy)⟩
    ·rcases c₄.1 hx with hx | hx <;> simp [hx]
    ·rw [zo om]
     by_cases hkj:k.k=j
     ·rw [if_pos hkj]
      exact⟨fun h=>(by cases h),fun h=>absurd hkj (hnk j h)⟩
     ·rw [if_neg hkj,hl j hj]
      simp only [d₇,c₃,c₄,b₂]
      constructor
      ·rintro(h | h | h)
       ·exact .inl h
       ·exact absurd h.symm hkj
       ·exact .inr h
      ·rintro(h | h)
       ·exact .inl h
       ·exact .inr (.inr h)
    ·intro j oj hj hjl ed he hb
     rw [zo om] at hjl ⊢
     split
     ·rfl
     ·split at hjl
      ·rename_i hkj
       subst hkj
       rw [ho] at hj
       injection hj with hj
       subst hj
       exact hready ed he hb
      ·exact hc j oj hj hjl ed he hb
    ·simp only [a₇,b₈] at hlen ⊢
     omega
end
end
section
section
variable {Pg:Program} {T:bB} {N:Nat} {ents:List FuncId} {G:GS} {ops:Array Oper} {E:VE} {M:VM} {n:Nat} {o:Oper}
theorem Bx {e:Nat→Option MV} {m:FM} {f:Operand} {args:List Operand} {K:FuncId×List MV×List (Nat×Nat)→Prop} (h:(gJ e m f args).runP K):(gJ e m f args).runP fun x=>K x∧∀c∈x.2.2,m c.1≠none:=by
 unfold gJ at h ⊢;unfold rd at h ⊢;split at h
 ·have key: ∀(az:List Operand) (k:List MV→bj (FuncId×List MV×List (Nat×Nat))) (K K':FuncId×List MV×List (Nat×Nat)→Prop),(∀vs,(k vs).runP K→(k vs).runP K')→(mS e az k).runP K→(mS e az k).runP K':=by
   intro az
   induction az with
   | nil=>intro k K K' hk h;exact hk _ h
   | cons x az ih=>
    intro k K K' hk h;unfold mS rd at h ⊢;split at h
    ·exact ih _ K K' (fun vs h=>hk _ h) h
    ·exact h.elim
  refine key _ _ _ _ (fun vs hk=>?_) h;split at hk
  ·exact dE (ke (fj.refl m) (bj.bind_runP.1 hk)) fun x hx=>⟨hx.1,hx.2⟩
  ·exact hk.elim
 ·exact h.elim
theorem zq {E2:VE} {K:MV→VM→Prop} (h:vp Pg T ents G o E2 M n K): ∃r δ,kV Pg T ents G o (VE.get E2) (VM.get M) n r δ∧K r (δ.app n M):=by
 have plain:(iH Pg T (VE.get E2) (VM.get M) n o).runP (fun x=>K x.1 (x.2.app n M))→∃r δ,(iH Pg T (VE.get E2) (VM.get M) n o).runP (fun x=>x=(r,δ))∧K r (δ.app n M):=by
  intro h;obtain⟨⟨r,δ⟩,h1,h2,_⟩:=Es Pg T (VE.get E2) (VM.get M) n o _ h;exact⟨r,δ,h1,h2⟩
 obtain⟨dst,op,ty,pos,after,guard⟩:=o;cases op with
 | call c=>
  obtain⟨callee,args,ats⟩:=c;cases callee with
  | value f=>
   replace h:(gJ (VE.get E2) (VM.get M) f args.toList).runP fun x=>match ents.contains x.1 with | true=> ∃res,aE Pg G x.1 x.2.1 res∧K res (VM.bump M x.2.2) | false=>False:=h
   obtain⟨x,h1,⟨h2,h3⟩,h4⟩:=yW E2 M f args.toList _ (Bx h);split at h2
   ·rename_i hc;obtain⟨res,hsem,hk⟩:=h2;exact⟨res, .bump x.2.2,h4 _ ⟨hc,hsem,rfl,h3⟩,hk⟩
   ·exact h2.elim
  | _=>exact plain h
 | _=>exact plain h
theorem zr {dst:Option Tmp} {r:MV} {K:VE→Prop} (h:er N dst r E K): ∃E1,K E1∧(∀d,dst=some d→d < N)∧VE.get E1=kW dst r (VE.get E):=by
 unfold er at h;split at h
 ·exact⟨E,h,fun d hd=>(nomatch hd),rfl⟩
 ·rename_i d;split at h
  ·rename_i hd;refine⟨_,h,fun d' hd'=>?_,?_⟩
   ·injection hd' with hd';subst hd';simpa [e₁] using hd
   ·funext t;rw [VE.get_cons]
    show _=aO _ d r t
    unfold aO;by_cases ht:d=t
    ·subst ht;simp
    ·rw [if_neg ht,if_neg fun h=>ht h.symm]
  ·exact h.elim
theorem zt {s:Nat} {v:MV} (h:VE.get E s=some v):VE.get ((s,v) :: E)=VE.get E:=by
 funext t;rw [VE.get_cons];split
 ·rename_i hh;subst hh;exact h.symm
 ·rfl
section
variable (Pg:Program) (T:bB) (N:Nat) (ents:List FuncId) (G:GS)
def o5 (rf:Bool) (o:Oper) (E:VE) (M:VM) (n:Nat) (K:MV→VM→List Nat→Prop):Prop:=match rf with
 | false=>vp Pg T ents G o E M n fun r M'=>K r M' (numsO (VE.get E) o.op.operands.toList)
 | true=>match o.op with
  | .call c=>match c.callee with
   | .value f=>(dX E f c.args.toList).runP fun x=>match ents.contains x.1 with
    | true=> ∃fp,lO Pg G M n x.1 x.2 fp fun r M'=>K r M' fp
    | false=>False
   | _=>False
  | _=>False
def sh (ops:Array Oper) (rf:Bool) (o:Oper) (K:List Nat→VE→VM→Prop) (E:VE) (M:VM) (n:Nat):Prop:=match o.guard with
 | none=>o5 Pg T ents G rf o E M n fun r M fp=>er N o.dst r E fun E=>K fp E M
 | some (j,want)=>match (ops[j]?).bind (·.dst) with
  | none=>False
  | some s=>match VE.get E s with
   | some (.bool t)=>
    (t=want→o5 Pg T ents G rf o ((s, .bool want) :: E) M n fun r M fp=>er N o.dst r ((s, .bool want) :: E) fun E=>K fp E M)∧
    (t= !want→er N o.dst .undef ((s, .bool (!want)) :: E) fun E'=>K (bif rf then [] else numsO (VE.get E) o.op.operands.toList) E' M)
   | some .undef=>er N o.dst .undef E fun E'=>K (bif rf then [] else numsO (VE.get E) o.op.operands.toList) E' M
   | _=>False
def aD (ops:Array Oper):List (Nat×Bool)→List xB→VK→VE→VM→Nat→Prop
 | [],A,K=>fun E M n=>gK ops A.reverse=true∧K E M n
 | x :: L,A,K=>fun E M n=>match ops[x.1]? with
  | some o=>sh Pg T N ents G ops x.2 o (fun fp E M=>aD ops L (⟨x.1,n,x.2,fp⟩ :: A) K E M (n + 1)) E M n
  | none=>False
end
theorem EG {rf:Bool} {E2:VE} {K:MV→VM→List Nat→Prop} {_D:VE} (h:o5 Pg T ents G rf o E2 M n K) (hg:Bm ops o (VE.get E2)=some true) (hd: ∀d,o.dst=some d→d < N): ∃r M' fp,K r M' fp∧dC Pg T N ents G ops rf o n fp (VE.get E2) (VM.get M) (kW o.dst r (VE.get E2)) (VM.get M'):=by
 cases rf with
 | false=>
  obtain⟨r,δ,h1,h2⟩:=zq (K:=fun r M'=>K r M' (numsO (VE.get E2) o.op.operands.toList)) h;exact⟨r,δ.app n M,_,h2,r,hd,rfl,δ,⟨true,hg,fun _=>h1,fun h=>nomatch h⟩,Dl.get_app _ _ _,rfl⟩
 | true=>
  have hd':=hd;obtain⟨dst,op,ty,pos,after,guard⟩:=o;unfold o5 at h;cases op with
  | call c=>
   obtain⟨callee,args,ats⟩:=c;cases callee with
   | value f=>
    replace h:(fD (VE.get E2) f args.toList).runP fun x=>match ents.contains x.1 with | true=> ∃fp,lO Pg G M n x.1 x.2 fp fun r M'=>K r M' fp | false=>False:=h
    unfold fD at h;obtain⟨x,h1,h2,h3⟩:=(af.rd fun fv=>af.rds fun vs=>by cases fv <;> first | exact af.ret _ | exact af.bad) _ h;split at h2
    ·rename_i hc;obtain⟨fp,args',M0,n0,res,M1,n1,a1,σ,bs,a2,a3,a4,a5,a6,a7⟩:=h2;refine⟨_,_,fp,a7,_,hd',rfl,true,hg,fun _=>?_,fun h=>nomatch h⟩
     show(fD (VE.get E2) f args.toList).runP _
     unfold fD;exact h3 _ ⟨hc,M,rfl,args',M0,n0,res,M1,n1,a1,σ,bs,a2,a3,a4,a5,a6,rfl,rfl⟩
    ·exact h2.elim
   | _=>exact h.elim
  | _=>exact h.elim
theorem GK {dst:Option Tmp} {r:MV} {K:VE→Prop} (h:er N dst r E K): ∀d,dst=some d→d < N:=by
 intro d hd;subst hd;unfold er at h;split at h
 ·rename_i hh;cases hh
 ·rename_i d' hh;injection hh with hh
  subst hh;split at h
  ·rename_i hb;simpa [e₁] using hb
  ·exact h.elim
theorem By {rf:Bool} {K:MV→VM→List Nat→Prop} (h:o5 Pg T ents G rf o E M n K): ∃r M' fp,K r M' fp:=by
 cases rf with
 | false=>obtain ⟨r,δ,h1,h2⟩:=zq (K:=fun r M'=>K r M' (numsO (VE.get E) o.op.operands.toList)) h;exact⟨_,_,_,h2⟩
 | true=>
  obtain⟨dst,op,ty,pos,after,guard⟩:=o;unfold o5 at h;cases op with
  | call c=>
   obtain⟨callee,args,ats⟩:=c;cases callee with
   | value f=>
    replace h:(fD (VE.get E) f args.toList).runP fun x=>match ents.contains x.1 with | true=> ∃fp,lO Pg G M n x.1 x.2 fp fun r M'=>K r M' fp | false=>False:=h
    unfold fD at h;obtain⟨x,h1,h2,h3⟩:=(af.rd fun fv=>af.rds fun vs=>by cases fv <;> first | exact af.ret _ | exact af.bad) _ h;split at h2
    ·obtain⟨fp,args',M0,n0,res,M1,n1,a1,σ,bs,a2,a3,a4,a5,a6,a7⟩:=h2;exact⟨_,_,_,a7⟩
    ·exact h2.elim
   | _=>exact h.elim
  | _=>exact h.elim
theorem GL {rf:Bool} {K:List Nat→VE→VM→Prop} (h:sh Pg T N ents G ops rf o K E M n): ∃fp E1 M1,K fp E1 M1∧dC Pg T N ents G ops rf o n fp (VE.get E) (VM.get M) (VE.get E1) (VM.get M1):=by
 have run: ∀{E2:VE},VE.get E2=VE.get E→Bm ops o (VE.get E)=some true→(o5 Pg T ents G rf o E2 M n fun r M fp=>er N o.dst r E2 fun E=>K fp E M)→∃fp E1 M1,K fp E1 M1∧dC Pg T N ents G ops rf o n fp (VE.get E) (VM.get M) (VE.get E1) (VM.get M1):=by
  intro E2 he hg h;have hd: ∀d,o.dst=some d→d < N:=by obtain⟨r,M',fp,h1⟩:=By h;exact GK h1
  obtain⟨r,M',fp,h1,h2⟩:=EG (_D:=E2) h (by rw [he];exact hg) hd;obtain⟨E1,h3,h4,h5⟩:=zr h1;rw [he] at h2 h5;rw [← h5] at h2;exact⟨fp,E1,M',h3,h2⟩
 have skip: ∀{E2:VE},VE.get E2=VE.get E→Bm ops o (VE.get E)=some false→(er N o.dst .undef E2 fun E'=>K (bif rf then [] else numsO (VE.get E) o.op.operands.toList) E' M)→∃fp E1 M1,K fp E1 M1∧dC Pg T N ents G ops rf o n fp (VE.get E) (VM.get M) (VE.get E1) (VM.get M1):=by
  intro E2 he hg h;obtain⟨E1,h3,h4,h5⟩:=zr h;rw [he] at h5;cases rf with
  | false=>exact ⟨_,E1,M,h3, .undef,h4,h5, .none,⟨false,hg,fun h=>(nomatch h),fun _=>⟨rfl,rfl⟩⟩,rfl,rfl⟩
  | true=>exact ⟨_,E1,M,h3, .undef,h4,h5,false,hg,fun h=>(nomatch h),fun _=>⟨rfl,rfl⟩⟩
 unfold sh at h;split at h
 ·rename_i hg;exact run rfl (by simp [Bm,hg]) h
 ·rename_i j want hg;split at h
  ·exact h.elim
  ·rename_i s hj;split at h
   ·rename_i t ht;by_cases hw:t=want
    ·exact run (zt (by rw [ht,hw])) (by simp [Bm,hg,hj,ht,hw]) (h.1 hw)
    ·have hw':t= !want:=by cases t <;> cases want <;> simp_all
     exact skip (zt (by rw [ht,hw'])) (by simp [Bm,hg,hj,ht,hw]) (h.2 hw')
   ·rename_i ht;exact skip rfl (by simp [Bm,hg,hj,ht]) h
   ·exact h.elim
def OS (n n':Nat) (L:List xB):Prop:=(L.map (·.n)).Nodup∧∀x∈L,n≤x.n∧x.n < n'
theorem vZ: ∀{L:List (Nat×Bool)} {A:List xB} {K:VK} {E:VE} {M:VM} {n:Nat},aD Pg T N ents G ops L A K E M n→
  ∃D E1 M1,gK ops (A.reverse ++ D)=true∧D.length=L.length∧OS n (n + L.length) D∧K E1 M1 (n + L.length)∧GH Pg T N ents G ops D (VE.get E) (VM.get M) (VE.get E1) (VM.get M1)
 | [],A,K,E,M,n,h=>⟨[],E,M,by simpa using h.1,rfl,⟨List.nodup_nil,fun _ h=>nomatch h⟩,h.2,rfl,rfl⟩
 | x :: L,A,K,E,M,n,h=>by
  unfold aD at h
  split at h
  ·rename_i o ho
   obtain⟨fp,E1,M1,h1,h2⟩:=GL h
   obtain⟨D,E2,M2,h3,h4,h5,h6,h7⟩:=vZ h1
   refine⟨⟨x.1,n,x.2,fp⟩ :: D,E2,M2,by simpa using h3,by simp [h4],⟨d₆.2 ⟨fun hm=>?_,h5.1⟩,fun y hy=>?_⟩,by rw [b₈,show n + (L.length + 1)=n + 1 + L.length by omega];exact h6,o,_,_,ho,h2,h7⟩
   ·obtain⟨y,hy,he⟩:=b₀.1 hm
    have:=(h5.2 y hy).1
    simp only at he
    omega
   ·rcases b₂.1 hy with rfl | hy
    ·simp
    ·have:=h5.2 y hy
     simp only [b₈]
     omega
  ·exact h.elim
end
end
section
inductive Rs (n0:Nat) (K:VK):VE→VM→Nat→Prop
 | go {E:VE} {M:VM} {n:Nat} (h:K E M n):Rs n0 K E M n
 | re {E:VE} {M:VM} {n:Nat} (E':VE) (M':VM) (n':Nat) (h:gI n0 E' M' n' E M) (k:K E' M' n'):Rs n0 K E M n
section
variable (Pg:Program) (T:bB) (N:Nat) (ents:List FuncId) (G:GS) (n0:Nat)
def vC:Code→(Exit→VK)→VK
 | .skip,Q,E,M,n=>Q .normal E M n
 | .region _ ops draw,Q,E,M,n=>match draw with
  | false=>ak Pg T N ents G ops ops.toList (Q .normal) E M n
  | true=> ∃L:List (Nat×Bool),aD Pg T N ents G ops L [] (Q .normal) E M n
 | .seq x y,Q,E,M,n=>vC x (fun e E M n=>match e with | .normal=>Rs n0 (vC y Q) E M n | e=>Q e E M n) E M n
 | .cond c x y,Q,E,M,n=>match iV (VE.get E) c with
  | some (.bool t)=>(t=true→vC x Q E M n)∧(t=false→vC y Q E M n)
  | _=>False
 | .block id c,Q,E,M,n=>vC c (fun e E M n=>match e with | .exit i=>(bif a₆ i id then Q .normal E M n else Q (.exit i) E M n) | e=>Q e E M n) E M n
 | .loop c,Q,E,M,_=> ∃(X:Type) (E':X→VE) (M':X→VM) (n':Nat) (I:X→Prop) (μ:X→Nat),
   (∃x,I x∧gI n0 (E' x) (M' x) n' E M)∧
   ∀x,I x→vC c (fun e E1 M1 n1=>match e with | .normal=> ∃x',I x'∧μ x' < μ x∧gI n0 (E' x') (M' x') n' E1 M1 | e=>Q e E1 M1 n1) (E' x) (M' x) n'
 | .exit id,Q,E,M,n=>Q (.exit id) E M n
 | .ret,Q,E,M,n=>Q .ret E M n
 | .label _,Q,E,M,n=>Q .normal E M n
 | _,_,_,_,_=>False
def iy:List MV→MV
 | [v] =>v
 | vs=> .tup vs
def dY (M:VM) (E:VE):List ResultVar→(List MV→Prop)→Prop
 | [],K=>K []
 | .tmp t :: l,K=>match VE.get E t with
  | some v=>dY M E l fun r=>K (v :: r)
  | none=>False
 | .cell p ty :: l,K=>match VE.get E p with
  | some p=>(gG T (VM.get M) ty p).runP fun x=>dY M E l fun r=>K (x.1 :: r)
  | none=>False
def GM (rs:List ResultVar) (R:MV→Prop):Exit→VK:=fun e E M _=>match e with
 | .ret | .normal=>dY T M E rs fun vs=>(gg (VM.get M) vs).runP fun x=>R (iy x.1)
 | _=>False
def GN (rs:List ResultVar) (res:MV) (M1:VM) (n1:Nat):Exit→VK:=fun e E M _=>match e with
 | .ret | .normal=>dY T M E rs fun vs=> ∃(rv:List MV) (σ bs:List (Nat×Nat)),iy rv=res∧eB n0 rv M1 n1 vs M σ bs
 | _=>False
def tJ (rs:List ResultVar) (Φ:MV→VM→Nat→Prop):Exit→VK:=fun e E M _=>match e with
 | .ret | .normal=>dY T M E rs fun vs=> ∃(res:MV) (M1:VM) (n1:Nat),Φ res M1 n1∧∃(rv:List MV) (σ bs:List (Nat×Nat)),iy rv=res∧eB n0 rv M1 n1 vs M σ bs
 | _=>False
end
section
variable {ops:Array Oper} {e:Nat→Option MV} {F F':Nat→Prop} {Pg:Program} {T:bB} {N:Nat} {ents:List FuncId} {G:GS} {w0 w w':World} {ex0:El} {P0 P:bT} {adr:fV} {E:VE} {M:VM} {m:FM} {n:Nat} {a:Act} {r:MV} {u:Value} {δ:Dl}
def GO (N:Nat) (w0:World) (ex0:El) (P0:bT) (Q:Exit→VK):Exit→Act→World→Prop:=fun e a w=> ∃E M n,Q e E M n∧oQ N w0 ex0 P0 (VE.get E) (VM.get M) n a w
theorem km.drew (hs:km N w0 ex0 P0 e m F a w):km N w0 ex0 P0 e m F a { w with drawn:=w.drawn + 1 }:=by
 obtain⟨P,adr,hI,hE,ha1,ha2,ha3⟩:=hs.ex;have hb:Below w.heap.size w { w with drawn:=w.drawn + 1 }:=⟨rfl,rfl,rfl,b₄ _,fun _ _=>rfl⟩;refine⟨⟨iU w { w with drawn:=w.drawn + 1 } P,adr,hI.below hb,fun t v ht=>?_,ha1,⟨ha2.in_,ha2.old,ha2.keep.trans (bG.below hI.prot hb)⟩,fun b o ho=>?_⟩,hs.fresh,hs.ge,⟨hs.since.os,hs.since.tape,hs.since.output,hs.since.size,hs.since.block⟩,hs.defers,hs.size⟩
 ·obtain⟨u,h1,h2⟩:=hE t v ht;exact⟨u,h1,h2.keep (bG.below hI.prot hb)⟩
 ·rcases ho with h | h
  ·exact ha3 b o h
  ·exact .inr (.inl (c₉ hs.since.size h.1))
theorem km.mono (hs:km N w0 ex0 P0 e m F a w) (hF: ∀c,F' c→F c):km N w0 ex0 P0 e m F' a w:=by
 obtain⟨P,adr,hI,hE,ha1,ha2,ha3⟩:=hs.ex;exact⟨⟨P,adr,hI,hE,fun c hc=>ha1 c (hF c hc),ha2,ha3⟩,fun c hc=>hs.fresh c (hF c hc),fun c hc=>hs.ge c (hF c hc),hs.since,hs.defers,hs.size⟩
theorem o6 {M':VM} {n':Nat} {w':World} {P':bT} {adr':fV} (hd:a.defers= []) (hz:a.tmps.size=N) (hI:aX w' P' adr' (VM.get M')) (hE:gw w' P' adr' (VE.get E) a) (hr:aK w' P' adr' r u) (h1: ∀c,n'≤c→adr' c=none) (h2:iP w0 ex0 P0 w' P' adr')
  (h3: ∀b o,P' b o→P0 b o∨w0.heap.size≤b∨ex0.ex b) (h4: ∀c,n'≤c→VM.get M' c=none) (h5:ex0.n0≤n') (h6:cG ex0.ex w0 w') {dst:Option Tmp} {K:VE→Prop} (hK:er N dst r E K): ∃E',K E'∧oQ N w0 ex0 P0 (VE.get E') (VM.get M') n' (a.put dst u) w':=by
 unfold er at hK
 split at hK
 ·exact⟨E,hK,⟨P',adr',hI,hE,h1,h2,h3⟩,h4,h5,h6,hd,hz⟩
 ·rename_i d
  split at hK
  ·rename_i hlt
   have hlt:d < N:=by simpa [e₁] using hlt
   exact⟨_,hK,⟨P',adr',hI,hE.put hz hlt hr,h1,h2,h3⟩,h4,h5,h6,hd,by simp [Act.put,hz]⟩
  ·exact hK.elim
theorem Bz {o:Oper} {k:Nat} (hk:qD Pg E M o=some k) (hI:aX w P adr (VM.get M)) (hE:gw w P adr (VE.get E) a):(execOp a.eval o).run Pg w= .ok (.value (.int .i64 k)) w:=by
 obtain⟨dst,op,ty,pos,after,guard⟩:=o;unfold qD at hk;split at hk
 ·rename_i c hop;obtain⟨callee,args,ats⟩:=c;have hop:op= .call ⟨callee,args,ats⟩:=hop;subst hop;split at hk
  ·rename_i hcl;have hcl:callee= .builtin .len:=hcl;subst hcl;split at hk
   ·rename_i x t hx ht;have hx:args.toList= [x] :=hx;have ht:ats.toList= [t] :=ht;have hargs:args= #[x] :=by rw [← Array.toList_inj];exact hx
    have hats:ats= #[t] :=by rw [← Array.toList_inj];exact ht
    subst hargs;subst hats;split at hk
    ·rename_i c hc;split at hk
     ·rename_i b hb;split at hk
      ·rename_i ks vs hl;split at hk
       ·rename_i kt et hu;split at hk;rotate_left
        ·cases hk
        rename_i hkv;injection hk with hk
        subst hk;obtain⟨g,hg,hv⟩:=(sw hE hc).mp_;obtain⟨clk,es,hw,hEn⟩:=xg hI hb hl hg hkv;have hlen:=hEn.len.1;have hr:(Builtin.len_ #[t] ty #[.map (some g)]).run Pg w= .ok (goInt es.size) w:=by
         simp [Builtin.len_,run_underlying hu,MapKept.run_getObj_map hw]
        have e:execOp a.eval ⟨dst, .call ⟨.builtin .len, #[x], #[t]⟩,ty,pos,after,guard⟩=builtin .len #[t] ty ((#[x] :Array Operand).map fun | .const _=>true | _=>false) ((#[x] :Array Operand).map a.eval):=by
         simp [execOp,resolve,invoke];rfl
        have h2:(builtin .len #[t] ty ((#[x] :Array Operand).map fun | .const _=>true | _=>false) #[.map (some g)]).run Pg w= .ok (.value (goInt es.size)) w:=by
         show(do pure (.value (← Builtin.len_ #[t] ty #[.map (some g)])):Sem Next).run Pg w=_
         rw [Sem.run_bind,hr];rfl
        rw [e];have h3:((#[x] :Array Operand).map a.eval)= #[.map (some g)] :=by simp [hv]
        rw [h3,h2,← hlen];rfl
       ·cases hk
      ·cases hk
     ·cases hk
    ·cases hk
   ·cases hk
  ·cases hk
 ·cases hk
theorem GP (hS:jZ Pg T ents G w0 ex0) {o:Oper} {K:VK} {next:Act→World→Prop} {Q:Exit→Act→World→Prop}
  (h:xm Pg T N ents G ops o K E M n) (hs:oQ N w0 ex0 P0 (VE.get E) (VM.get M) n a w) (hn: ∀E M n a w,K E M n→oQ N w0 ex0 P0 (VE.get E) (VM.get M) n a w→next a w) :
  if Region.wanted o (yielded ops a.tmps) then o.wp Pg a w next Q∨(o.asks Pg a w∧LetsOut Q) else next (a.put o.dst undef) w:=by
 obtain⟨P,adr,hI,hE,ha1,ha2,ha3⟩:=hs.ex
 have run: ∀{E2:VE},gw w P adr (VE.get E2) a→(tj Pg T ents G o E2 M n fun r M n=>er N o.dst r E2 fun E=>K E M n)→o.wp Pg a w next Q:=by
  intro E2 hE2 h
  unfold tj at h
  split at h
  ·rename_i k neg hq
   unfold xl at hq
   split at hq
   ·rename_i op t x ty' hop
    split at hq
    ·rename_i k' l hx
     split at hq
     ·rename_i e es hd
      have hp:=sw hE2 hx
      obtain⟨A,cap,es',parts,e1,_,_,_,h4,_⟩:=hp.sl_
      have hc:jN T t (.const (.slice none 0 0)) (.val (a.eval x)) (.val (.slice none 0 0))=some A.isNone:=by
       rw [e1]
       cases A with
       | none=>obtain ⟨q1,q2⟩:=h4 rfl;subst q1;subst q2;simp [jN,hd]
       | some _=>simp [jN,hd]
      obtain⟨r1,r2⟩:=sN (xo:=x) (P:=Pg) hS.seat.tab hc w
      have hA:A.isNone=true→k'=0:=fun hA=>(h4 (by simpa using hA)).1
      obtain⟨dst,op',ty,pos,after,guard⟩:=o
      have hop:op'= .binOp op t x (.const (.slice none 0 0)) ty':=hop
      subst hop
      have fin: ∀(bb:Bool),(do eqGuard op t x (.const (.slice none 0 0)) (a.eval x) (.slice none 0 0);binOp op t (a.eval x) (.slice none 0 0):Sem Value).run Pg w= .ok (.bool bb) w→(er N dst (.bool bb) E2 fun E=>K E M (n + 1))→(⟨dst, .binOp op t x (.const (.slice none 0 0)) ty',ty,pos,after,guard⟩:Oper).wp Pg a w next Q:=by
       intro bb hr hk
       have hres:=D8.val (a:=a) (o:=⟨dst, .binOp op t x (.const (.slice none 0 0)) ty',ty,pos,after,guard⟩) (Q:=fun u w'=>u= .bool bb∧w'=w) _ rfl hr ⟨rfl,rfl⟩
       obtain⟨E',q1,q2⟩:=o6 (n':=n + 1) hs.defers hs.size hI hE2 (.val [_] .bool) (fun c hc=>ha1 c om) ha2 ha3 (fun c hc=>hs.fresh c om) (by have:=hs.ge;omega) hs.since hk
       unfold Oper.wp
       rcases hres with ⟨u,w',p1,rfl,rfl⟩ | ⟨w',p1,p2,_⟩
       ·rw [p1];exact hn _ _ _ _ _ q1 q2
       ·cases p2
      split at hq
      ·injection hq with hq;injection hq with hq1 hq2;subst hq1;subst hq2
       exact fin _ r1 (h A.isNone hA)
      ·injection hq with hq;injection hq with hq1 hq2;subst hq1;subst hq2
       exact fin _ r2 (h A.isNone hA)
      ·cases hq
     ·cases hq
    ·cases hq
   ·cases hq
  have old:(vp Pg T ents G o E2 M n fun r M=>er N o.dst r E2 fun E=>K E M (n + 1))→o.wp Pg a w next Q:=by
   intro h
   refine JC hS h hI ha1 hs.fresh hE2 hs.since fun r δ u w' hk hp=>?_
   obtain⟨E',h1,h2⟩:=hs.post hI hE2 ha1 ha2 ha3 hp hk
   exact hn _ _ _ _ _ h1 h2
  obtain⟨dst,op,ty,pos,after,guard⟩:=o
  cases op with
  | call c=>
   obtain⟨callee,args,ats⟩:=c
   cases callee with
   | builtin b=>
    rcases h with h | ⟨k,hk,h⟩
    ·exact old h
    ·have hrun:=Bz hk hI hE2
     obtain⟨E',q1,q2⟩:=o6 (n':=n + 1) hs.defers hs.size hI hE2 (.val [_] .int) (fun c hc=>ha1 c om) ha2 ha3 (fun c hc=>hs.fresh c om) (by have:=hs.ge;omega) hs.since h
     unfold Oper.wp
     rw [hrun]
     exact hn _ _ _ _ _ q1 q2
   | invoke r n=>exact old h
   | value f=>
    rcases h with h | h
    ·exact old h
    ·unfold dX at h
     obtain⟨pf,h,hpf⟩:=bH hE2 h
     obtain⟨ps,h,hps⟩:=iX hE2 h
     cases pf with
     | fn f0 caps=>
      generalize hu:a.eval f=uf at hpf
      cases hpf with
      | val cs hfn=>
       cases hfn with
       | fn parts hpl hpr=>
        have hall:=hps.app (dq.of_parts hpl hpr)
        have hex: ∀w1,(execOp a.eval ⟨dst, .call ⟨.value f,args,ats⟩,ty,pos,after,guard⟩).run Pg w1=(callFunc f0 (args.toList.map a.eval ++ c₆ valM caps parts).toArray).run Pg w1:=fun w1=>by
         have hmap:args.map a.eval=(args.toList.map a.eval).toArray:=jH _ _
         simp [execOp,resolve,hu,valM,MV.isAgg,Deferred.ofValue,invoke,hmap]
        replace h:(match ents.contains f0 with | true=>jj Pg G ti M n f0 (ps ++ caps) (fun r M n=>er N dst r E2 fun E=>K E M n) | false=>jj Pg G yR M n f0 (ps ++ caps) (fun r M n=>er N dst r E2 fun E=>K E M n)):=h
        split at h
        ·rename_i hc
         have hrun:=(hex w).trans (hS.seat.enters f0 (by simpa using hc) (args.toList.map a.eval ++ c₆ valM caps parts).toArray w)
         unfold Oper.wp
         rw [hrun]
         refine(vO (C:=fun P f a w Q=>Calls P f a w Q) (fun h k=>h.mono k) hS h hs.since hs.fresh hs.ge hI hE2 ha1 ha2 ha3 hall).mono ?_
         rintro e w' ⟨v,rfl,r,M',n',hk,P',adr',q1,q2,q3,q4,q5,q6,q7,q8,q9⟩
         obtain⟨E',h1,h2⟩:=o6 hs.defers hs.size q1 q2 q3 q4 q5 q6 q7 q8 q9 hk
         exact hn _ _ _ _ _ h1 h2
        ·obtain⟨v0,w',hr,v,he,r,M',n',hk,P',adr',q1,q2,q3,q4,q5,q6,q7,q8,q9⟩:=vO (C:=vL) (fun h k=>h.mono k) hS h hs.since hs.fresh hs.ge hI hE2 ha1 ha2 ha3 hall
         injection he with he
         subst he
         have hrun:=(hex w).trans hr
         unfold Oper.wp
         rw [hrun]
         obtain⟨E',h1,h2⟩:=o6 hs.defers hs.size q1 q2 q3 q4 q5 q6 q7 q8 q9 hk
         exact hn _ _ _ _ _ h1 h2
     | _=>exact h.elim
  | _=>exact old h
 have skip: ∀{E2:VE},gw w P adr (VE.get E2) a→(er N o.dst .undef E2 fun E=>K E M (n + 1))→next (a.put o.dst undef) w:=by
  intro E2 hE2 h
  obtain⟨E',h1,h2⟩:=hs.post (δ:= .none) hI hE2 ha1 ha2 ha3 (bI.pure hI (ha1 n (b₄ _)) .undef) h
  exact hn _ _ _ _ _ h1 h2
 unfold xm at h
 split at h
 ·rename_i hg
  rw [if_pos (by simp [Region.wanted,hg])]
  exact .inl (run hE h)
 ·rename_i j want hg
  split at h
  ·exact h.elim
  ·rename_i s hj
   split at h
   ·rename_i t ht
    have hv:=hs.know ht
    have hy:yielded ops a.tmps j=some t:=by simp [yielded,hj,hv]
    by_cases hw:t=want
    ·rw [if_pos (by simp [Region.wanted,hg,hy,hw])]
     exact .inl (run (hE.know (by rw [ht,hw])) (h.1 hw))
    ·have hw':t= !want:=by cases t <;> cases want <;> simp_all
     rw [if_neg (by simp [Region.wanted,hg,hy,hw])]
     exact skip (hE.know (by rw [ht,hw'])) (h.2 hw')
   ·rename_i ht
    obtain⟨v,hv1,hv2⟩:=hE s _ ht
    have hv:v=undef:=hv2.undef_
    subst hv
    have hy:yielded ops a.tmps j=none:=by simp [yielded,hj,hv1,undef]
    rw [if_neg (by simp [Region.wanted,hg,hy])]
    exact skip hE h
   ·exact h.elim
theorem zu (hS:jZ Pg T ents G w0 ex0) (ops:Array Oper): ∀(l:List Oper) {K:VK} {E:VE} {M:VM} {n:Nat} {a:Act} {w:World} {Q:Exit→Act→World→Prop},
  ak Pg T N ents G ops l K E M n→oQ N w0 ex0 P0 (VE.get E) (VM.get M) n a w→(∀E M n a w,K E M n→oQ N w0 ex0 P0 (VE.get E) (VM.get M) n a w→Q .normal a w)→wpList Pg ops Q l a w
 | [],_,E,M,n,a,w,_,h,hs,hQ=>hQ E M n a w h hs
 | o :: rest,K,E,M,n,a,w,Q,h,hs,hQ=>by
  replace h:Rt n (fun E M=>xm Pg T N ents G ops o (ak Pg T N ents G ops rest K) E M n) E M:=h
  have key: ∀{E:VE} {M:VM},Rt n (fun E M=>xm Pg T N ents G ops o (ak Pg T N ents G ops rest K) E M n) E M→oQ N w0 ex0 P0 (VE.get E) (VM.get M) n a w→∃E' M',xm Pg T N ents G ops o (ak Pg T N ents G ops rest K) E' M' n∧oQ N w0 ex0 P0 (VE.get E') (VM.get M') n a w:=by
   intro E M h
   induction h with
   | go h=>intro hs;exact⟨_,_,h,hs⟩
   | re E' M' h1 _ ih=>intro hs;exact ih (hs.frz h1)
  obtain⟨E',M',h',hs'⟩:=key h hs
  exact GP hS (next:=wpList Pg ops Q rest) (Q:=Q) h' hs' fun _ _ _ _ _ h hs=>zu hS ops rest h hs hQ
theorem JP (hS:jZ Pg T ents G w0 ex0) {id:Nat} {L:List (Nat×Bool)} {Q:Exit→VK} (h:aD Pg T N ents G ops L [] (Q .normal) E M n) (hs:oQ N w0 ex0 P0 (VE.get E) (VM.get M) n a w):(Code.region id ops true).wp Pg (GO N w0 ex0 P0 Q) a w:=by
 obtain⟨D,E1,M1,hok,hlen0,⟨hnd,hnb⟩,hq,hr⟩:=vZ h;rw [List.reverse_nil,List.nil_append] at hok;simp only [gK,a₀,b₅] at hok;obtain⟨⟨hls,hall⟩,hlen⟩:=hok;obtain⟨hP,hA⟩:=vX hls;refine wp_region_any hS.seat.mixed ?_;refine L4 (Z:=fun c=>n + L.length≤c) hS (fun a w hs'=>⟨E1,M1,_,hq,hs'.toSim fun c hc=>hc⟩) ops.size D ⟨M,rfl⟩ hr hP hA hnd (fun x hx hz=>?_) ?_ (fun k hk=>?_) sm (fun k o ho hl=>?_) ?_
 ·have:=(hnb x hx).2;omega
 ·refine(hs.toS.drew).mono fun c hc=>?_
  rcases hc with hc | hc
  ·obtain⟨x,hx,rfl⟩:=b₀.1 hc;exact(hnb x hx).1
  ·show n≤c
   replace hc:n + L.length≤c:=hc;omega
 ·have h1:(Array.replicate ops.size false).getD k true=false:=by simp [Array.getD,hk]
  have h2:k∈D.map (·.k):=by simpa using hall k (by simpa using hk)
  exact⟨fun _=>h2,fun _=>h1⟩
 ·exfalso;by_cases hk:k < ops.size
  ·simp [Array.getD,hk] at hl
  ·simp [Array.getD,hk] at hl
 ·simpa using hlen
theorem GQ (hS:jZ Pg T ents G w0 ex0): ∀(c:Code) {Q:Exit→VK} {E:VE} {M:VM} {n:Nat} {a:Act} {w:World},
  vC Pg T N ents G ex0.n0 c Q E M n→oQ N w0 ex0 P0 (VE.get E) (VM.get M) n a w→c.wp Pg (GO N w0 ex0 P0 Q) a w:=by
 intro c
 induction c with
 | skip=>intro Q E M n a w h hs;exact wp_skip ⟨E,M,n,h,hs⟩
 | region id ops draw=>
  intro Q E M n a w h hs
  cases draw with
  | false=>exact wp_region_list (zu hS ops _ h hs fun E M n a w hk hs=>⟨E,M,n,hk,hs⟩)
  | true=>
   obtain⟨L,h⟩:=h
   exact JP hS h hs
 | seq x y ihx ihy=>
  intro Q E M n a w h hs
  refine wp_seq (Code.wp_mono (fun e a w hq=>?_) (ihx h hs))
  obtain⟨E',M',n',hq,hs'⟩:=hq
  cases e with
  | normal=>
   cases hq with
   | go h=>exact ihy h hs'
   | re E2 M2 n2 h k=>exact ihy k (hs'.matched h)
  | _=>exact ⟨E',M',n',hq,hs'⟩
 | cond c x y ihx ihy=>
  intro Q E M n a w h hs
  simp only [vC] at h
  split at h
  ·rename_i t ht
   obtain⟨P,adr,hI,hE,_⟩:=hs.ex
   have hv:=(sw hE ht).bool_
   exact wp_cond_split hv (fun ht=>ihx (h.1 ht) hs) (fun ht=>ihy (h.2 ht) hs)
  ·exact h.elim
 | block id c ih=>
  intro Q E M n a w h hs
  refine wp_block (Code.wp_mono (fun e a w hq=>?_) (ih h hs))
  obtain⟨E',M',n',hq,hs'⟩:=hq
  cases e with
  | exit i=>
   by_cases hi:i=id
   ·subst hi
    simp at hq
    simp only [Exit.inBlock,if_true]
    exact⟨E',M',n',hq,hs'⟩
   ·simp only [gE hi,cond_false] at hq
    simp only [Exit.inBlock,hi,if_false]
    exact⟨E',M',n',hq,hs'⟩
  | _=>exact ⟨E',M',n',hq,hs'⟩
 | loop c ih=>
  intro Q E M n a w h hs
  obtain⟨X,E',M',n',I,μ,⟨x0,hI0,hm0⟩,h1⟩:=h
  have hs0:=hs.matched hm0
  intro b k cs
  have key: ∀j x a w,μ x=j→I x→oQ N w0 ex0 P0 (VE.get (E' x)) (VM.get (M' x)) n' a w→
    ∃e a' w',GO N w0 ex0 P0 Q e a' w'∧Arrives Pg (lone (b.at a (.code c :: .inLoop c :: k)) cs w) b k cs e a' w':=by
   intro j
   induction j using Nat.strongRecOn with
   | _ j ihn=>
    intro x a w hn hI hs
    obtain⟨e,a₁,w₁,hq,harr⟩:=ih (h1 x hI) hs b (.inLoop c :: k) cs
    obtain⟨E1,M1,n1,hq,hs1⟩:=hq
    cases e with
    | normal=>
     obtain⟨x',hI',hlt,hm⟩:=hq
     obtain⟨e₂,a₂,w₂,hq₂,harr₂⟩:=ihn (μ x') (hn▸hlt) x' a₁ w₁ rfl hI' (hs1.matched hm)
     exact⟨e₂,a₂,w₂,hq₂, .of_steps (Steps.trans harr (.one step_inLoop)) harr₂⟩
    | exit id=>exact ⟨_,a₁,w₁,⟨E1,M1,n1,hq,hs1⟩, .pass (x:= .inLoop c) rfl (fun _ _=> .inl sm) harr⟩
    | goto l=>exact ⟨_,a₁,w₁,⟨E1,M1,n1,hq,hs1⟩, .pass (x:= .inLoop c) rfl (fun _ _=> .inl sm) harr⟩
    | ret=>exact ⟨_,a₁,w₁,⟨E1,M1,n1,hq,hs1⟩, .pass (x:= .inLoop c) rfl (fun _ _=> .inl sm) harr⟩
    | panic ch=>exact ⟨_,a₁,w₁,⟨E1,M1,n1,hq,hs1⟩, .pass (x:= .inLoop c) rfl (fun _ _=> .inl sm) harr⟩
    | outgrown=>exact ⟨_,a₁,w₁,⟨E1,M1,n1,hq,hs1⟩, .pass (x:= .inLoop c) rfl (fun _ _=> .inl sm) harr⟩
  obtain⟨e,a',w',hq,harr⟩:=key _ x0 a w rfl hI0 hs0
  exact⟨e,a',w',hq, .of_steps (.one step_loop) harr⟩
 | exit id=>intro Q E M n a w h hs;exact wp_exit ⟨E,M,n,h,hs⟩
 | ret=>intro Q E M n a w h hs;exact wp_ret ⟨E,M,n,h,hs⟩
 | label l=>intro Q E M n a w h hs;exact wp_label ⟨E,M,n,h,hs⟩
 | rangeFunc=>intro Q E M n a w h;exact h.elim
 | scope=>intro Q E M n a w h;exact h.elim
 | goto=>intro Q E M n a w h;exact h.elim
 | refuse=>intro Q E M n a w h;exact h.elim
theorem ko (hT:cB Pg T) (hI:aX w P adr (VM.get M)) (hE:gw w P adr (VE.get E) a): ∀{rs:List ResultVar} {K:List MV→Prop},dY T M E rs K→
  ∃(ps:List MV) (vs:List Value),vs.length=rs.length∧(∀(i:Nat) (r:ResultVar),rs[i]? =some r→∃v,vs[i]? =some v∧(sS a.tmps r).run Pg w= .ok v w)∧dq w P adr ps vs∧K ps
 | [],K,h=>⟨[],[],rfl,fun i r hi=>by simp at hi, .nil,h⟩
 | .tmp t :: l,K,h=>by
  unfold dY at h
  split at h
  ·rename_i p hp
   obtain⟨v,h1,h2⟩:=hE t p hp
   obtain⟨ps,vs,hl,hi,hr,hK⟩:=ko hT hI hE h
   refine⟨p :: ps,v :: vs,by simp [hl],fun i r hr=>?_, .cons h2 hr,hK⟩
   cases i with
   | zero=>simp at hr;subst hr;exact⟨v,rfl,by simp [sS,h1]⟩
   | succ i=>exact hi i r (by simpa using hr)
  ·exact h.elim
 | .cell p ty :: l,K,h=>by
  unfold dY at h
  split at h
  ·rename_i q hq
   obtain⟨uv,h1,h2⟩:=hE p q hq
   obtain⟨r0,v,h3,h4,h5⟩:=yJ hT h h2 hI
   obtain⟨ps,vs,hl,hi,hr,hK⟩:=ko hT hI hE h3
   refine⟨r0 :: ps,v :: vs,by simp [hl],fun i r hr=>?_, .cons h5 hr,hK⟩
   cases i with
   | zero=>
    simp at hr
    subst hr
    refine⟨v,rfl,?_⟩
    have hg':a.tmps.getD p undef=uv:=by simp [h1]
    simp only [sS,hg']
    exact vg h4
   | succ i=>exact hi i r (by simpa using hr)
  ·exact h.elim
theorem xC {ps:List MV} {vs:List Value} (h:dq w P adr ps vs) (hv: ∀p∈ps,p.isVal=true):aK w P adr (iy ps) (tup vs):=by
 obtain⟨parts,h1,h2,rfl⟩:=h.caps hv
 match ps,parts,h1,h2 with
 | [],[],_,_=>exact .tup [] rfl (fun j m u h=>by simp at h)
 | [p],[q],_,h2=>exact .val q (h2 0 p q rfl rfl)
 | p :: p' :: ps,q :: q' :: parts,h1,h2=>
  refine .tup (c₆ valM (p :: p' :: ps) (q :: q' :: parts)) (by rw [List.length_zipWith];simp at h1 ⊢;omega) fun j m u hj hu=>?_
  rw [List.getElem?_zipWith] at hu;rw [hj] at hu;cases hq:(q :: q' :: parts)[j]? with
  | none=>rw [hq] at hu;cases hu
  | some c=>
   rw [hq] at hu;injection hu with hu
   exact⟨c,h2 j m c hj hq,hu.symm⟩
theorem o7: ∀{l:List MV} {i t:Nat} {v:MV},VE.get (qz i l) t=some v→i≤t∧l[t - i]? =some v
 | [],i,t,v,h=>by simp [qz,VE.get] at h
 | x :: l,i,t,v,h=>by
  rw [qz,VE.get_cons] at h
  split at h
  ·rename_i e;subst e;injection h with h;subst h;simp
  ·rename_i e
   obtain⟨h1,h2⟩:=o7 h
   refine⟨om,?_⟩
   rw [show t - i=(t - (i + 1)) + 1 by omega]
   simpa using h2
theorem dq.get: ∀{ps:List MV} {vs:List Value},dq w P adr ps vs→∀{i:Nat} {p:MV},ps[i]? =some p→∃v,vs[i]? =some v∧aK w P adr p v
 | _,_, .nil,i,p,h=>by simp at h
 | _,_, .cons (p:=q) (v:=v) h t,i,p,hi=>by
  cases i with
  | zero=>simp at hi;subst hi;exact⟨v,rfl,h⟩
  | succ i=>simpa using t.get (i:=i) (by simpa using hi)
theorem dq.length: ∀{ps:List MV} {vs:List Value},dq w P adr ps vs→ps.length=vs.length
 | _,_, .nil=>rfl
 | _,_, .cons _ t=>by simp [t.length]
theorem EH {K:List MV×List (Nat×Nat)→Prop} {m:FM}: ∀{l:List MV},(gg m l).runP K→(gg m l).runP fun x=>K x∧∀p∈x.1,p.isVal=true:=by
 have one: ∀{p:MV} {K:MV×List (Nat×Nat)→Prop},(dA m p).runP K→(dA m p).runP fun x=>K x∧x.1.isVal=true:=by
  intro p K h;cases p <;> simp only [dA] at h ⊢
  case ms c es off n=>
   split at h
   ·split at h
    ·obtain⟨a1,l,a2,h⟩:=h;exact⟨a1,l,a2,h,rfl⟩
    ·exact h.elim
   ·exact h.elim
  case ptr c es k fo path=>
   split at h
   ·rename_i b hb;cases he:a₆ b.es es with
    | false=>rw [he] at h;exact h.elim
    | true=>
     rw [he] at h;obtain⟨v,q1,h⟩:=h;cases hf:v.idFree with
     | false=>rw [hf] at h;exact h.elim
     | true=>rw [hf] at h;exact⟨v,q1,by simp only [hf];exact⟨h,rfl⟩⟩
   ·exact h.elim
  case st l=>exact dE (bj.bind_runP.1 h) fun _ h=>⟨h,rfl⟩
  case fn f l=>exact dE (bj.bind_runP.1 h) fun _ h=>⟨h,rfl⟩
  case ifc t v=>exact ir (bj.bind_runP.1 h) fun _ h=>⟨h,rfl⟩
  all_goals first | exact h.elim | exact⟨h,rfl⟩
 intro l
 induction l generalizing K with
 | nil=>intro h;exact⟨h,fun p hp=>nomatch hp⟩
 | cons q l ih=>
  intro h;simp only [gg] at h ⊢;refine ir (one (bj.bind_runP.1 h)) fun x hx=>?_
  refine dE (ih (bj.bind_runP.1 hx.1)) fun y hy=>⟨hy.1,fun p hp=>?_⟩
  rcases b₂.1 hp with rfl | hp
  ·exact hx.2
  ·exact hy.2 p hp
theorem BA (hS:Seat Pg T ents) {f:FuncId} {fn:Func} {c:Code} {rs:List ResultVar} (hf:Pg.funcs[f]? =some fn) (hb:fn.body=some c) (hrs:fn.results=rs.toArray) (h5:rs.length≤6) {args:List MV} (hn:args.length≤fn.ntmps) (hN:fn.ntmps=N) {res:MV}
  (h:vC Pg T N ents G 0 c (GM T rs fun r=>r=res) (qz 0 args) [] 0):aE Pg G f args res:=by
 intro w P vals hg hP hargs
 have hSM:jZ Pg T ents G w Gl:=⟨hS,fun w' h=>G.stab w w' _ hg (fun _ h=>h.elim) h,fun _ h=>h.elim,fun g h=>G.lt w g hg h⟩
 have hlen:=hargs.length
 have h0:oQ N w Gl P (VE.get (qz 0 args)) (VM.get []) 0 { tmps:=vals.toArray ++ Array.replicate (fn.ntmps - vals.toArray.size) undef,defers:= [] } w:=by
  refine⟨⟨P,noAdr,⟨fun c b hc=>by simp [VM.get] at hc,fun c d b b' g hc=>by simp [VM.get] at hc,hP⟩,fun t v ht=>?_,fun _ _=>rfl,⟨fun c g hc=>(nomatch hc),fun c hc=>absurd hc (Nat.not_lt_zero c),bG.refl _ _ _⟩,fun b o h=> .inl h⟩,fun c _=>rfl,Nat.zero_le _,cG.refl _ _,rfl,by simp;omega⟩
  obtain⟨_,h2⟩:=o7 ht
  rw [e₇] at h2
  obtain⟨u,h3,h4⟩:=hargs.get h2
  have hlt:=(b₆.1 h3).1
  refine⟨u,?_,h4⟩
  show(vals.toArray ++ Array.replicate (fn.ntmps - vals.toArray.size) undef)[t]? =some u
  rw [Array.getElem?_append_left (by simpa using hlt)]
  simpa using h3
 refine calls_of_wp hf hb (Code.wp_mono (fun e a w' hq=>?_) (GQ (ex0:=Gl) hSM c h h0))
 obtain⟨E',M',n',hq,hs⟩:=hq
 have fin:dY T M' E' rs (fun vs=>(gg (VM.get M') vs).runP fun x=>iy x.1=res)→
   a.defers= [] ∧∃v,(results fn a.tmps).run Pg w'= .ok v w'∧∃v',Ending.returned v= .returned v'∧aK w' (iU w w' P) noAdr res v'∧Below w.heap.size w w':=by
  intro hq
  obtain⟨P',adr',hI,hE,ha1,ha2,ha3⟩:=hs.ex
  obtain⟨ps,vs,hl,hi,hr,hK⟩:=ko hS.tab hI hE hq
  obtain⟨l',bs,⟨hxr,hfree⟩,P2,h1,h2,h3,h4⟩:=qA (EH hK) hr hI
  refine⟨hs.defers,tup vs,lH hrs h5 hl hi,tup vs,rfl,?_,hs.since.below⟩
  rw [← hxr]
  refine(xC h4 hfree).keep ⟨fun b o hp=>?_,fun _ _ _=>rfl,fun _ _ h=>(nomatch h),fun _ _ _ _ h=>nomatch h⟩
  rcases h3 b o hp with hp' | ⟨c',hc'⟩
  ·rcases ha3 b o hp' with h | h | h
   ·exact .inl h
   ·exact .inr ⟨h,hI.prot b o hp'⟩
   ·exact h.elim
  ·rcases ha2.in_ c' b hc' with h | h
   ·exact .inr ⟨h,h1.prot b o hp⟩
   ·exact h.elim
 cases e with
 | normal=>exact fin hq
 | ret=>exact fin hq
 | _=>exact hq.elim
theorem bA (hS:Seat Pg T ents) {f:FuncId} {fn:Func} (hf:Pg.funcs[f]? =some fn) (N:Nat) {c:Code} {rs:List ResultVar} {args:List MV} {res:MV} (h:vC Pg T N ents G 0 c (GM T rs fun r=>r=res) (qz 0 args) [] 0) (hb:fn.body=some c:=by rfl) (hrs:fn.results=rs.toArray:=by rfl) (h5:rs.length≤6:=by exact Nat.le_of_ble_eq_true rfl) (hn:args.length≤fn.ntmps:=by exact Nat.le_of_ble_eq_true rfl) (hN:fn.ntmps=N:=by rfl):aE Pg G f args res:=BA hS hf hb hrs h5 hn hN h
theorem BB (hS:Seat Pg T ents) {f:FuncId} {fn:Func} {c:Code} {rs:List ResultVar} (hf:Pg.funcs[f]? =some fn) (hb:fn.body=some c) (hrs:fn.results=rs.toArray) (h5:rs.length≤6) {args:List MV} (hn:args.length≤fn.ntmps) (hN:fn.ntmps=N) {M0:VM} {n0:Nat} (hM0:M0.all (fun x=>a₄ x.1 n0)=true) {res:MV} {M1:VM} {n1:Nat}
  (h:vC Pg T N ents G n0 c (GN T n0 rs res M1 n1) (qz 0 args) M0 n0):aQ Pg G f args M0 n0 res M1 n1:=by
 intro w P adr vals hg hI0 hn0 hL hargs
 have hSM:jZ Pg T ents G w ⟨fun g=> ∃c,adr c=some g,adr,n0,fun c g hc=>by
   rcases d₀ c n0 with h | h
   ·exact h
   ·rw [hn0 c h] at hc;cases hc⟩:=⟨hS,fun w' h=>G.stab w w' _ hg (fun g ⟨c,hc⟩=>hL c g hc) h,fun g ⟨c,hc⟩=>hL c g hc,fun g h=>G.lt w g hg h⟩
 have hlen:=hargs.length
 have h0:oQ N w ⟨fun g=> ∃c,adr c=some g,adr,n0,fun c g hc=>by
   rcases d₀ c n0 with h | h
   ·exact h
   ·rw [hn0 c h] at hc;cases hc⟩ P (VE.get (qz 0 args)) (VM.get M0) n0 { tmps:=vals.toArray ++ Array.replicate (fn.ntmps - vals.toArray.size) undef,defers:= [] } w:=by
  refine⟨⟨P,adr,hI0,fun t v ht=>?_,hn0,⟨fun c g hc=> .inr ⟨c,hc⟩,fun c _=>rfl,bG.refl _ _ _⟩,fun b o h=> .inl h⟩,fun c hc=>qC hM0 hc,b₄ _,cG.refl _ _,rfl,by simp;omega⟩
  obtain⟨_,h2⟩:=o7 ht
  rw [e₇] at h2
  obtain⟨u,h3,h4⟩:=hargs.get h2
  have hlt:=(b₆.1 h3).1
  refine⟨u,?_,h4⟩
  show(vals.toArray ++ Array.replicate (fn.ntmps - vals.toArray.size) undef)[t]? =some u
  rw [Array.getElem?_append_left (by simpa using hlt)]
  simpa using h3
 refine calls_of_wp hf hb (Code.wp_mono (fun e a w' hq=>?_) (GQ hSM c h h0))
 obtain⟨E',M',n',hq,hs⟩:=hq
 have fin:dY T M' E' rs (fun vs=> ∃(rv:List MV) (σ bs:List (Nat×Nat)),iy rv=res∧eB n0 rv M1 n1 vs M' σ bs)→
   a.defers= [] ∧∃v,(results fn a.tmps).run Pg w'= .ok v w'∧∃v',Ending.returned v= .returned v'∧∃P' adr',aX w' P' adr' (VM.get M1)∧aK w' P' adr' res v'∧bG w w' P P' adr adr'∧(∀c,c < n0→adr' c=adr c)∧(∀c,n1≤c→adr' c=none)∧
   (∀c g,adr' c=some g→w.heap.size≤g∨∃c0,adr c0=some g)∧(∀b o,P' b o→P b o∨w.heap.size≤b∨∃c0,adr c0=some b)∧cG (fun g=> ∃c0,adr c0=some g) w w':=by
  intro hq
  obtain⟨P1,adr1,hI,hE,ha1,ha2,ha3⟩:=hs.ex
  obtain⟨ps,vs,hl,hi,hr,rv,σ,bs,hres,hok,hokb,hall,hrel,hmm⟩:=ko hS.tab hI hE hq
  have hσ:=j9 hok
  obtain⟨P2,i1,i2,i3,i4⟩:=hI.frozen hokb
  obtain⟨r1,r2⟩:=iu i4 hrel (hr.kp i2)
  have hA:=(ha2.frozen i2).matched hσ
  refine⟨hs.defers,tup vs,lH hrs h5 hl hi,tup vs,rfl,P2,fL (da n0 σ) adr1,i1.matched hσ i4 hmm,?_,hA.keep,fun c hc=>hA.old c hc,fun c hc=>ka hσ hc,fun c g hc=>hA.in_ c g hc,fun b o ho=>?_,hs.since⟩
  ·rw [← hres];exact xC r1 r2
  ·rcases i3 b o ho with h | ⟨c,h⟩
   ·exact ha3 b o h
   ·rcases ha2.in_ c b h with h | h
    ·exact .inr (.inl h)
    ·exact .inr (.inr h)
 cases e with
 | normal=>exact fin hq
 | ret=>exact fin hq
 | _=>exact hq.elim
theorem dw (hS:Seat Pg T ents) {f:FuncId} {fn:Func} (hf:Pg.funcs[f]? =some fn) (N:Nat) {c:Code} {rs:List ResultVar} {args:List MV} {M0:VM} {n0:Nat} {res:MV} {M1:VM} {n1:Nat} (h:vC Pg T N ents G n0 c (GN T n0 rs res M1 n1) (qz 0 args) M0 n0) (hb:fn.body=some c:=by rfl) (hrs:fn.results=rs.toArray:=by rfl) (h5:rs.length≤6:=by exact Nat.le_of_ble_eq_true rfl) (hn:args.length≤fn.ntmps:=by exact Nat.le_of_ble_eq_true rfl) (hN:fn.ntmps=N:=by rfl) (hM0:M0.all (fun x=>Nat.blt x.1 n0)=true:=by rfl):aQ Pg G f args M0 n0 res M1 n1:=BB hS hf hb hrs h5 hn hN hM0 h
theorem BC (hS:Seat Pg T ents) {f:FuncId} {fn:Func} {c:Code} {rs:List ResultVar} (hf:Pg.funcs[f]? =some fn) (hb:fn.body=some c) (hrs:fn.results=rs.toArray) (h5:rs.length≤6) {args:List MV} (hn:args.length≤fn.ntmps) (hN:fn.ntmps=N) {M0:VM} {n0:Nat} (hM0:M0.all (fun x=>a₄ x.1 n0)=true) {Φ:MV→VM→Nat→Prop}
  (h:vC Pg T N ents G n0 c (tJ T n0 rs Φ) (qz 0 args) M0 n0):ti Pg G f args M0 n0 Φ:=by
 intro w P adr vals hg hI0 hn0 hL hargs
 have hSM:jZ Pg T ents G w ⟨fun g=> ∃c,adr c=some g,adr,n0,fun c g hc=>by
   rcases d₀ c n0 with h | h
   ·exact h
   ·rw [hn0 c h] at hc;cases hc⟩:=⟨hS,fun w' h=>G.stab w w' _ hg (fun g ⟨c,hc⟩=>hL c g hc) h,fun g ⟨c,hc⟩=>hL c g hc,fun g h=>G.lt w g hg h⟩
 have hlen:=hargs.length
 have h0:oQ N w ⟨fun g=> ∃c,adr c=some g,adr,n0,fun c g hc=>by
   rcases d₀ c n0 with h | h
   ·exact h
   ·rw [hn0 c h] at hc;cases hc⟩ P (VE.get (qz 0 args)) (VM.get M0) n0 { tmps:=vals.toArray ++ Array.replicate (fn.ntmps - vals.toArray.size) undef,defers:= [] } w:=by
  refine⟨⟨P,adr,hI0,fun t v ht=>?_,hn0,⟨fun c g hc=> .inr ⟨c,hc⟩,fun c _=>rfl,bG.refl _ _ _⟩,fun b o h=> .inl h⟩,fun c hc=>qC hM0 hc,b₄ _,cG.refl _ _,rfl,by simp;omega⟩
  obtain⟨_,h2⟩:=o7 ht
  rw [e₇] at h2
  obtain⟨u,h3,h4⟩:=hargs.get h2
  have hlt:=(b₆.1 h3).1
  refine⟨u,?_,h4⟩
  show(vals.toArray ++ Array.replicate (fn.ntmps - vals.toArray.size) undef)[t]? =some u
  rw [Array.getElem?_append_left (by simpa using hlt)]
  simpa using h3
 refine calls_of_wp hf hb (Code.wp_mono (fun e a w' hq=>?_) (GQ hSM c h h0))
 obtain⟨E',M',n',hq,hs⟩:=hq
 have fin:dY T M' E' rs (fun vs=> ∃(res:MV) (M1:VM) (n1:Nat),Φ res M1 n1∧∃(rv:List MV) (σ bs:List (Nat×Nat)),iy rv=res∧eB n0 rv M1 n1 vs M' σ bs)→
   a.defers= [] ∧∃v,(results fn a.tmps).run Pg w'= .ok v w'∧∃v',Ending.returned v= .returned v'∧∃(res:MV) (M1:VM) (n1:Nat),Φ res M1 n1∧∃P' adr',aX w' P' adr' (VM.get M1)∧aK w' P' adr' res v'∧bG w w' P P' adr adr'∧(∀c,c < n0→adr' c=adr c)∧(∀c,n1≤c→adr' c=none)∧
   (∀c g,adr' c=some g→w.heap.size≤g∨∃c0,adr c0=some g)∧(∀b o,P' b o→P b o∨w.heap.size≤b∨∃c0,adr c0=some b)∧cG (fun g=> ∃c0,adr c0=some g) w w':=by
  intro hq
  obtain⟨P1,adr1,hI,hE,ha1,ha2,ha3⟩:=hs.ex
  obtain⟨ps,vs,hl,hi,hr,res,M1,n1,hΦ,rv,σ,bs,hres,hok,hokb,hall,hrel,hmm⟩:=ko hS.tab hI hE hq
  have hσ:=j9 hok
  obtain⟨P2,i1,i2,i3,i4⟩:=hI.frozen hokb
  obtain⟨r1,r2⟩:=iu i4 hrel (hr.kp i2)
  have hA:=(ha2.frozen i2).matched hσ
  refine⟨hs.defers,tup vs,lH hrs h5 hl hi,tup vs,rfl,res,M1,n1,hΦ,P2,fL (da n0 σ) adr1,i1.matched hσ i4 hmm,?_,hA.keep,fun c hc=>hA.old c hc,fun c hc=>ka hσ hc,fun c g hc=>hA.in_ c g hc,fun b o ho=>?_,hs.since⟩
  ·rw [← hres];exact xC r1 r2
  ·rcases i3 b o ho with h | ⟨c,h⟩
   ·exact ha3 b o h
   ·rcases ha2.in_ c b h with h | h
    ·exact .inr (.inl h)
    ·exact .inr (.inr h)
 cases e with
 | normal=>exact fin hq
 | ret=>exact fin hq
 | _=>exact hq.elim
theorem du {f:FuncId} {args:List MV} {res:MV} (h:aE Pg G f args res):aQ Pg G f args [] 0 res [] 0:=by
 intro w P adr vals hg hI hn hL hargs;have e:adr=noAdr:=by funext c;exact hn c (Nat.zero_le _)
 subst e;refine(h w P vals hg hI.prot hargs).mono ?_;rintro e w' ⟨v,rfl,h1,h2⟩;have hb:=bG.below (adr:=noAdr) hI.prot h2;refine⟨v,rfl,iU w w' P,noAdr,hI.below h2,h1,hb,fun _ _=>rfl,fun _ _=>rfl,fun c g hc=>(nomatch hc),fun b o ho=>?_,(cG.of_below h2).weak fun _ e=>e.elim⟩;rcases ho with h | h
 ·exact .inl h
 ·exact .inr (.inl h.1)
end
end
section
open Go.RowKit Go.ChangeShapes Go.Deep
def GR (W:World):bT:=fun b _=>b < W.heap.size
mutual
def MV.bulk:MV→Nat
 | .str s=>s.length + 1
 | .sl _ l=>MV.bulks l + 1
 | .st l=>MV.bulks l + 1
 | _=>1
def MV.bulks:List MV→Nat
 | [] =>0
 | m :: l=>MV.bulk m + MV.bulks l
end
theorem zw {H:Type} (d:DataW H):1≤Rows.uptoBulk d:=by
 cases d with
 | lit l=>cases l <;> simp [Rows.uptoBulk]
 | nil=>simp [Rows.uptoBulk]
 | ptr d=>simp [Rows.uptoBulk]
 | slice elems spare=>simp [Rows.uptoBulk]
 | agg parts=>simp [Rows.uptoBulk]
 | iface t d=>simp [Rows.uptoBulk]
 | map entries=>simp [Rows.uptoBulk]
 | held h=>simp [Rows.uptoBulk]
theorem v7 {H:Type} (f:Nat→MV) (D:Nat→DataW H): ∀(l:List Nat),(∀i∈l,(f i).bulk≤Rows.uptoBulk (D i))→MV.bulks (l.map f)≤Rows.uptoBulkAll (l.map D)
 | [],_=>b₄ _
 | i :: l,h=>by
  have h1:=h i sm
  have h2:=v7 f D l fun j hj=>h j (by simp [hj])
  simp only [c₃,MV.bulks,Rows.uptoBulkAll]
  omega
def Opn (P:Program) (t:TypeId) (n:Nat) (Q:MV→Prop):Prop:=
 P.cellsOf t=n∧∀{H:Type} (enc:TypeId×Value→H) (W:World) (spare:Nat→Bool) (held:Bool) (fuel:Nat) (cs:List Value) (d:DataW H) (p:List MemPlace),
  DataW.trod enc P W 0 spare held fuel t cs=some (d,p)→(d.weights P t).all (· ≤reachBytes)=true→cs.length=n∧∃m,Q m∧cS W (GR W) noAdr m cs∧m.bulk≤Rows.uptoBulk d
section
variable {P:Program} {t e:TypeId}
theorem Opn.int {k:IntKind} (hu:P.underlying t=some (.int k)) (hc:P.cellsOf t=1):Opn P t 1 fun m=> ∃n,m= .int k n∧(Lit.int k n).wf=true:=
 ⟨hc,fun enc W spare held fuel cs d p h _=>by
  obtain⟨n,rfl,_,hw⟩:=DataW.trod_int hu h;exact⟨rfl,_,⟨n,rfl,hw⟩, .int,zw d⟩⟩
theorem Opn.slice {n:Nat} {Q:MV→Prop} (hu:P.underlying t=some (.slice e)) (hc:P.cellsOf t=1) (hb:0 < P.bytesOf e) (hpos:0 < n) (hr:Opn P e n Q):Opn P t 1 fun m=> ∃l,m= .sl l.length l∧(∀x∈l,Q x)∧l.length≤140737488355328:=by
 refine⟨hc,fun {H} enc W spare held fuel cs d p h hw=>?_⟩;rcases open_slice hu h with ⟨rfl,_⟩ | ⟨a,len,cap,m,nn,D,Pl,rfl,_,hle,_,hm,hx,hi⟩
 ·exact⟨rfl,_,⟨[],rfl,sm,sm⟩, .sl none 0 0 [] rfl rfl (fun p hp=>nomatch hp) (fun _=>⟨rfl,rfl⟩) (b₄ _) (fun h=>absurd rfl h) (fun j m p h=>by simp at h),zw _⟩
 ·simp only [b₇] at hx;obtain⟨rfl,rfl⟩:=hx;simp only [DataW.weights,hu,List.all_cons,List.all_append,a₀,f₉,f₀] at hw;have hmle:len≤m:=by rw [hm];split <;> omega
  have hlen:len≤140737488355328:=by
   have h1:=ot hw.1;have h3:=F5;have h2:len * 1≤(len + (m - len)) * P.bytesOf e:=Nat.mul_le_mul om hb;omega
  have key: ∀i,i < len→∃x:MV×List Value,Q x.1∧cS W (GR W) noAdr x.1 x.2∧x.2.length=n∧(∀j v,x.2[j]? =some v→W.cell? (a.add (i * n + j))=some v)∧x.1.bulk≤Rows.uptoBulk (D i):=by
   intro i hil;obtain⟨cs',hc',ht⟩:=hi i om;rw [hr.1] at hc';obtain⟨_,hl,hat⟩:=World.cells?_some hc';have hmem:D i∈List.map D (b₉ len):=b₀.2 ⟨i,c₂.2 hil,rfl⟩;obtain⟨hl2,x,hx1,hx2,hx3⟩:=hr.2 enc W spare held nn cs' (D i) (Pl i) ht (sK hw.2.1 hmem);refine⟨(x,cs'),hx1,hx2,hl2,fun j v hv=>?_,hx3⟩;have hj:j < cs'.length:=(b₆.1 hv).1;have:=hat j om;rw [Go.Deep.add_add] at this;rw [this,hv]
  have ex: ∃f:Nat→MV×List Value,∀i,i < len→Q (f i).1∧cS W (GR W) noAdr (f i).1 (f i).2∧(f i).2.length=n∧(∀j v,(f i).2[j]? =some v→W.cell? (a.add (i * n + j))=some v)∧(f i).1.bulk≤Rows.uptoBulk (D i):=
   ⟨fun i=>Classical.epsilon fun x=>Q x.1∧cS W (GR W) noAdr x.1 x.2∧x.2.length=n∧(∀j v,x.2[j]? =some v→W.cell? (a.add (i * n + j))=some v)∧x.1.bulk≤Rows.uptoBulk (D i),fun i hil=>Classical.epsilon_spec (key i hil)⟩
  obtain⟨f,hf⟩:=ex;refine⟨rfl, .sl len ((b₉ len).map fun i=>(f i).1),⟨(b₉ len).map fun i=>(f i).1,sm,fun x hx=>?_,by simpa using hlen⟩,?_,?_⟩
  ·obtain⟨i,hi,rfl⟩:=b₀.1 hx;exact(hf i (c₂.1 hi)).1
  case refine_3=>
   have hb:=v7 (fun i=>(f i).1) D (b₉ len) fun i hi=>(hf i (c₂.1 hi)).2.2.2.2
   simp only [MV.bulk,Rows.uptoBulk];omega
  ·obtain⟨b,o,spot⟩:=a;have hparts: ∀p∈(b₉ len).map fun i=>(f i).2,p.length=n:=fun p hp=>by
    obtain⟨i,hi,rfl⟩:=b₀.1 hp;exact(hf i (c₂.1 hi)).2.2.1
   refine .sl _ cap n ((b₉ len).map fun i=>(f i).2) sm sm hparts (fun h=>nomatch h) hle (fun h0=>?_) fun j m p hm hp=>?_
   ·have hspot:spot=none:=by
     obtain⟨_,_,hl,hc',_⟩:=hf 0 om;have hv:(f 0).2[0]? =some ((f 0).2[0]'om):=List.getElem?_eq_getElem om;have hcell:=hc' 0 _ hv;have e0:(⟨b,o,spot⟩:Addr).add (0 * n + 0)=⟨b,o,spot⟩:=by simp [Addr.add]
     rw [e0] at hcell;simpa using World.cell?_spot hcell
    subst hspot;refine⟨b,o,rfl,fun j u hj=>?_⟩;have hjl:=(b₆.1 hj).1;rw [aR hparts] at hjl;simp at hjl;obtain⟨i,k,hk,hji⟩: ∃i k,k < n∧j=i * n + k:=⟨j / n,j % n,Nat.mod_lt _ hpos,by rw [e₈];exact(g₀ j n).symm⟩
    have hil:i < len:=by
     rcases d₀ i len with h | h
     ·exact h
     ·have:=a₈ n h;omega
    have hget:(f i).2[k]? =some u:=by
     have hl:=(hf i hil).2.2.1;have hp:((b₉ len).map fun i=>(f i).2)[i]? =some (f i).2:=by simp [hil]
     have h2:((b₉ len).map fun i=>(f i).2).flatten[i * n + k]? =(f i).2[k]? :=by
      have hsp:=bU hp;have hpre:(((b₉ len).map fun i=>(f i).2).take i).flatten.length=i * n:=by
       rw [aR fun p hp=>hparts p (List.mem_of_mem_take hp)];rw [f₃,f₉,f₀,Nat.min_eq_left (Nat.le_of_lt hil)]
      rw [hsp,c₁,List.getElem?_append_right om,hpre,show i * n + k - i * n=k by omega,List.getElem?_append_left om]
     rw [← h2,← hji];exact hj
    have:=(hf i hil).2.2.2.1 k u hget;rw [Addr.add_mid] at this;have hc2:W.cell? ⟨b,o + j,none⟩=some u:=by rw [hji];exact this
    exact⟨hc2,World.block_lt_of_cell? W _ hc2⟩
   ·rw [List.getElem?_map] at hm hp;cases hj:(b₉ len)[j]? with
    | none=>rw [hj] at hm;cases hm
    | some i=>
     rw [hj] at hm hp;injection hm with hm
     injection hp with hp
     subst hm;subst hp;have hi:i < len:=by
      have:=c₂.1 (List.mem_of_getElem? hj);exact this
     exact(hf i hi).2.1
theorem wa {α:Type} {f:α→MV} {R:α→Prop}: ∀(l:List MV),(∀x∈l,∃a,x=f a∧R a)→∃us:List α,l=us.map f∧∀a∈us,R a
 | [],_=>⟨[],rfl,sm⟩
 | x :: l,h=>by
  obtain⟨a,e,hr⟩:=h x sm
  obtain⟨us,e2,has⟩:=wa l fun y hy=>h y (by simp [hy])
  refine⟨a :: us,by rw [e,e2];rfl,fun b hb=>?_⟩
  rcases b₂.1 hb with rfl | hb
  ·exact hr
  ·exact has b hb
end
end
section
section
variable {Pg:Program} {T:bB} {N:Nat} {ents:List FuncId} {G:GS} {n0:Nat}
def aW (Pg:Program) (T:bB) (N:Nat) (ents:List FuncId) (G:GS) (n0:Nat) (y:Code) (Q:Exit→VK):Exit→VK:=fun e E M n=>match e with | .normal=>Rs n0 (vC Pg T N ents G n0 y Q) E M n | e=>Q e E M n
def aw (id:Nat) (Q:Exit→VK):Exit→VK:=fun e E M n=>match e with | .exit i=>(bif a₆ i id then Q .normal E M n else Q (.exit i) E M n) | e=>Q e E M n
def GV (n0:Nat) {X:Type} (E':X→VE) (M':X→VM) (n':Nat) (I:X→Prop) (μ:X→Nat) (x:X) (Q:Exit→VK):Exit→VK:=fun e E1 M1 n1=>match e with | .normal=> ∃x',I x'∧μ x' < μ x∧gI n0 (E' x') (M' x') n' E1 M1 | e=>Q e E1 M1 n1
variable {Q:Exit→VK} {E:VE} {M:VM} {n:Nat} {x y c:Code} {id i:Nat}
theorem tK (h:vC Pg T N ents G n0 x (aW Pg T N ents G n0 y Q) E M n):vC Pg T N ents G n0 (.seq x y) Q E M n:=h
theorem tL (h:Q .normal E M n):vC Pg T N ents G n0 .skip Q E M n:=h
theorem o8 {l:Nat} (h:Q .normal E M n):vC Pg T N ents G n0 (.label l) Q E M n:=h
theorem tM (h:Q (.exit id) E M n):vC Pg T N ents G n0 (.exit id) Q E M n:=h
theorem zx (h:Q .ret E M n):vC Pg T N ents G n0 .ret Q E M n:=h
theorem o9 (h:vC Pg T N ents G n0 c (aw id Q) E M n):vC Pg T N ents G n0 (.block id c) Q E M n:=h
theorem lR {l:List Oper} (h:ak Pg T N ents G (a₅ l) l (Q .normal) E M n):vC Pg T N ents G n0 (.region id (a₅ l) false) Q E M n:=h
theorem al {ops:Array Oper} (L:List (Nat×Bool)) (h:aD Pg T N ents G ops L [] (Q .normal) E M n):vC Pg T N ents G n0 (.region id ops true) Q E M n:=⟨L,h⟩
theorem ad {o:Operand} {t:Bool} (he:iV (VE.get E) o=some (.bool t)) (h1:t=true→vC Pg T N ents G n0 x Q E M n) (h2:t=false→vC Pg T N ents G n0 y Q E M n):vC Pg T N ents G n0 (.cond o x y) Q E M n:=by
 unfold vC;rw [he];exact⟨h1,h2⟩
theorem pa {o:Operand} (he:iV (VE.get E) o=some (.bool true)) (h:vC Pg T N ents G n0 x Q E M n):vC Pg T N ents G n0 (.cond o x y) Q E M n:=ad he (fun _=>h) (fun h=>a₃ h)
theorem pg {o:Operand} (he:iV (VE.get E) o=some (.bool false)) (h:vC Pg T N ents G n0 y Q E M n):vC Pg T N ents G n0 (.cond o x y) Q E M n:=ad he (fun h=>a₃ h) (fun _=>h)
theorem av (X:Type) (E':X→VE) (M':X→VM) (n':Nat) (I:X→Prop) (μ:X→Nat) (x0:X) (hI:I x0) (hm:gI n0 (E' x0) (M' x0) n' E M) (h: ∀x,I x→vC Pg T N ents G n0 c (GV n0 E' M' n' I μ x Q) (E' x) (M' x) n'):vC Pg T N ents G n0 (.loop c) Q E M n:=⟨X,E',M',n',I,μ,⟨x0,hI,hm⟩,h⟩
theorem tN (h:vC Pg T N ents G n0 y Q E M n):aW Pg T N ents G n0 y Q .normal E M n:=Rs.go h
structure zy (n0:Nat) {X:Type} (E':X→VE) (M':X→VM) (n':X→Nat) (I:X→Prop) (Q JQ:Exit→VK):Prop where
 nrm: ∀(p:X) {E:VE} {M:VM} {n:Nat},I p→gI n0 (E' p) (M' p) (n' p) E M→JQ .normal E M n
 ret: ∀{E:VE} {M:VM} {n:Nat},Q .ret E M n→JQ .ret E M n
 ext: ∀{i:Nat} {E:VE} {M:VM} {n:Nat},Q (.exit i) E M n→JQ (.exit i) E M n
theorem qH (X:Type) (E':X→VE) (M':X→VM) (n':X→Nat) (I:X→Prop) (h1: ∀JQ:Exit→VK,zy n0 E' M' n' I Q JQ→vC Pg T N ents G n0 c JQ E M n) (h2: ∀p,I p→vC Pg T N ents G n0 y Q (E' p) (M' p) (n' p)):vC Pg T N ents G n0 c (aW Pg T N ents G n0 y Q) E M n:=
 h1 _ ⟨fun p _ _ _ hI hm=>Rs.re _ _ _ hm (h2 p hI),fun h=>h,fun h=>h⟩
theorem sB {ops:Array Oper} {l:List Oper} (X:Type) (E':X→VE) (M':X→VM) (n':X→Nat) (I:X→Prop) (h1: ∀JQ:Exit→VK,zy n0 E' M' n' I Q JQ→ak Pg T N ents G ops l (aW Pg T N ents G n0 c JQ .normal) E M n) (h2: ∀p,I p→vC Pg T N ents G n0 y Q (E' p) (M' p) (n' p)):ak Pg T N ents G ops l (aW Pg T N ents G n0 c (aW Pg T N ents G n0 y Q) .normal) E M n:=
 h1 _ ⟨fun p _ _ _ hI hm=>Rs.re _ _ _ hm (h2 p hI),fun h=>h,fun h=>h⟩
theorem pj (X:Type) (E':X→VE) (M':X→VM) (n':X→Nat) (I:X→Prop) (h1: ∀JQ:Exit→VK,zy n0 E' M' n' I Q JQ→vC Pg T N ents G n0 c (aw id JQ) E M n) (h2: ∀p,I p→vC Pg T N ents G n0 y Q (E' p) (M' p) (n' p)):vC Pg T N ents G n0 c (aw id (aW Pg T N ents G n0 y Q)) E M n:=
 h1 _ ⟨fun p _ _ _ hI hm=>Rs.re _ _ _ hm (h2 p hI),fun h=>h,fun h=>h⟩
theorem po {X:Type} {E':X→VE} {M':X→VM} {n':X→Nat} {I:X→Prop} {JQ:Exit→VK} (hj:zy n0 E' M' n' I Q JQ) (h:Q .ret E M n):JQ .ret E M n:=hj.ret h
theorem pq {X:Type} {E':X→VE} {M':X→VM} {n':X→Nat} {I:X→Prop} {JQ:Exit→VK} (hj:zy n0 E' M' n' I Q JQ) (h:Q (.exit i) E M n):JQ (.exit i) E M n:=hj.ext h
theorem tO (h:Q (.exit i) E M n):aW Pg T N ents G n0 y Q (.exit i) E M n:=h
theorem tP (h:Q .ret E M n):aW Pg T N ents G n0 y Q .ret E M n:=h
theorem lS (h:Q .normal E M n):aw id Q .normal E M n:=h
theorem lT (h:Q .ret E M n):aw id Q .ret E M n:=h
theorem lU (hb:a₆ i id=true) (h:Q .normal E M n):aw id Q (.exit i) E M n:=by
 show(bif a₆ i id then _ else _);rw [hb];exact h
theorem lV (hb:a₆ i id=false) (h:Q (.exit i) E M n):aw id Q (.exit i) E M n:=by
 show(bif a₆ i id then _ else _);rw [hb];exact h
theorem pw {X:Type} {E':X→VE} {M':X→VM} {n':Nat} {I:X→Prop} {μ:X→Nat} {x:X} (h:Q (.exit i) E M n):GV n0 E' M' n' I μ x Q (.exit i) E M n:=h
theorem px {X:Type} {E':X→VE} {M':X→VM} {n':Nat} {I:X→Prop} {μ:X→Nat} {x:X} (h:Q .ret E M n):GV n0 E' M' n' I μ x Q .ret E M n:=h
def aB (Pg:Program) (T:bB) (N:Nat) (ents:List FuncId) (G:GS) (ops:Array Oper) (o:Oper) (rest:List Oper) (K:VK) (E:VE) (M:VM) (n:Nat):Prop:=
 tj Pg T ents G o E M n fun r M n=>er N o.dst r E fun E=>ak Pg T N ents G ops rest K E M n
def gx:Op→Bool
 | .call c=>match c.callee with
  | .value _=>false
  | _=>true
 | _=>true
variable {ops:Array Oper} {dst:Option Tmp} {d:Tmp} {op:Op} {ty:TypeId} {pos:String} {after:Array Edge} {g:Option (Nat×Bool)} {rest:List Oper} {K:VK} {r:MV} {δ:Dl} {o:Oper} {j s:Nat} {want t:Bool}
theorem CN (h:K E M n):ak Pg T N ents G ops [] K E M n:=h
theorem zz (h:aB Pg T N ents G ops ⟨dst,op,ty,pos,after,none⟩ rest K E M n):ak Pg T N ents G ops (⟨dst,op,ty,pos,after,none⟩ :: rest) K E M n:=Rt.go h
theorem ag (hs:(ops[j]?).bind (·.dst)=some s) (hv:VE.get E s=some (.bool t)) (h1:t=want→aB Pg T N ents G ops ⟨some d,op,ty,pos,after,some (j,want)⟩ rest K ((s, .bool want) :: E) M n) (hd:a₄ d N=true)
  (h2:t= !want→ak Pg T N ents G ops rest K ((d, .undef) :: (s, .bool (!want)) :: E) M (n + 1)):ak Pg T N ents G ops (⟨some d,op,ty,pos,after,some (j,want)⟩ :: rest) K E M n:=by
 unfold ak
 refine Rt.go ?_
 unfold xm
 simp only [hs,hv]
 refine⟨h1,fun ht=>?_⟩
 unfold er
 simp only [hd]
 exact h2 ht
theorem Pj (hf:(ops[j]?).bind (·.dst)=some s∧VE.get E s=some (.bool t)∧a₄ d N=true) (h1:t=want→aB Pg T N ents G ops ⟨some d,op,ty,pos,after,some (j,want)⟩ rest K ((s, .bool want) :: E) M n) (h2:t= !want→ak Pg T N ents G ops rest K ((d, .undef) :: (s, .bool (!want)) :: E) M (n + 1)):ak Pg T N ents G ops (⟨some d,op,ty,pos,after,some (j,want)⟩ :: rest) K E M n:=ag hf.1 hf.2.1 h1 hf.2.2 h2
theorem kq (hs:(ops[j]?).bind (·.dst)=some s) (hv:VE.get E s=some (.bool want)) (h:aB Pg T N ents G ops ⟨dst,op,ty,pos,after,some (j,want)⟩ rest K ((s, .bool want) :: E) M n):ak Pg T N ents G ops (⟨dst,op,ty,pos,after,some (j,want)⟩ :: rest) K E M n:=by
 unfold ak;refine Rt.go ?_;unfold xm;simp only [hs,hv];exact⟨fun _=>h,fun ht=>by cases want <;> cases ht⟩
theorem lW (hs:(ops[j]?).bind (·.dst)=some s) (hv:VE.get E s=some (.bool (!want))) (hd:a₄ d N=true) (h:ak Pg T N ents G ops rest K ((d, .undef) :: (s, .bool (!want)) :: E) M (n + 1)):ak Pg T N ents G ops (⟨some d,op,ty,pos,after,some (j,want)⟩ :: rest) K E M n:=
 ag hs hv (fun ht=>by cases want <;> cases ht) hd (fun _=>h)
theorem lX (hs:(ops[j]?).bind (·.dst)=some s) (hv:VE.get E s=some .undef) (hd:a₄ d N=true) (h:ak Pg T N ents G ops rest K ((d, .undef) :: E) M (n + 1)):ak Pg T N ents G ops (⟨some d,op,ty,pos,after,some (j,want)⟩ :: rest) K E M n:=by
 unfold ak;refine Rt.go ?_;unfold xm;simp only [hs,hv];unfold er;simp only [hd];exact h
theorem zA {l1 l2:List Oper} (h:ak Pg T N ents G ops (o :: f₁ l1 l2) K E M n):ak Pg T N ents G ops (f₁ (o :: l1) l2) K E M n:=h
theorem tQ {l2:List Oper} (h:ak Pg T N ents G ops l2 K E M n):ak Pg T N ents G ops (f₁ [] l2) K E M n:=h
theorem GW (hq:xl T E ⟨dst,op,ty,pos,after,g⟩=none) (hv:gx op=true) (he: ∀R:MV×Dl→Prop,R (r,δ)→(iH Pg T (VE.get E) (VM.get M) n ⟨dst,op,ty,pos,after,g⟩).runP R)
  (h:er N dst r E fun E=>ak Pg T N ents G ops rest K E (δ.app n M) (n + 1)):aB Pg T N ents G ops ⟨dst,op,ty,pos,after,g⟩ rest K E M n:=by
 unfold aB tj
 rw [hq]
 show Ls Pg T ents G _ E M n _
 cases op with
 | call c=>
  obtain⟨callee,args,ats⟩:=c
  cases callee with
  | value f=>cases hv
  | builtin b=>exact .inl (he _ h)
  | invoke r n=>exact he _ h
 | _=>exact he _ h
theorem tR {p:Prop} {E:VE} {M:VM} {o:Oper} {K:Nat→Prop} (h:p):p∨Lr Pg E M o K:= .inl h
theorem L5 {b:Builtin} {args:Array Operand} {ats:Array TypeId} {k:Nat} (hl:qD Pg E M ⟨some d, .call ⟨.builtin b,args,ats⟩,ty,pos,after,g⟩=some k) (hd:a₄ d N=true) (h:ak Pg T N ents G ops rest K ((d, .int .i64 k) :: E) M (n + 1)):aB Pg T N ents G ops ⟨some d, .call ⟨.builtin b,args,ats⟩,ty,pos,after,g⟩ rest K E M n:=by
 refine .inr ⟨k,hl,?_⟩;unfold er;simp only [hd];exact h
theorem py (hq:xl T E ⟨some d,op,ty,pos,after,g⟩=none) (hv:gx op=true) (he: ∀R:MV×Dl→Prop,R (r, .none)→(iH Pg T (VE.get E) (VM.get M) n ⟨some d,op,ty,pos,after,g⟩).runP R) (hd:a₄ d N=true)
  (h:ak Pg T N ents G ops rest K ((d,r) :: E) M (n + 1)):aB Pg T N ents G ops ⟨some d,op,ty,pos,after,g⟩ rest K E M n:=by
 refine GW hq hv he ?_
 unfold er
 simp only [hd]
 exact h
theorem aL (hq:xl T E ⟨some d,op,ty,pos,after,g⟩=none) (hv:gx op=true) (he: ∀R:MV×Dl→Prop,R (r,δ)→(iH Pg T (VE.get E) (VM.get M) n ⟨some d,op,ty,pos,after,g⟩).runP R) (hd:a₄ d N=true)
  (h:ak Pg T N ents G ops rest K ((d,r) :: E) (δ.app n M) (n + 1)):aB Pg T N ents G ops ⟨some d,op,ty,pos,after,g⟩ rest K E M n:=by
 refine GW hq hv he ?_
 unfold er
 simp only [hd]
 exact h
theorem qI (hq:xl T E ⟨none,op,ty,pos,after,g⟩=none) (hv:gx op=true) (he: ∀R:MV×Dl→Prop,R (r,δ)→(iH Pg T (VE.get E) (VM.get M) n ⟨none,op,ty,pos,after,g⟩).runP R)
  (h:ak Pg T N ents G ops rest K E (δ.app n M) (n + 1)):aB Pg T N ents G ops ⟨none,op,ty,pos,after,g⟩ rest K E M n:=GW hq hv he h
theorem GX {k:Nat} {neg:Bool} (hq:xl T E ⟨some d,op,ty,pos,after,g⟩=some (k,neg)) (hd:a₄ d N=true) (h: ∀b:Bool,(b=true→k=0)→ak Pg T N ents G ops rest K ((d, .bool (bif neg then !b else b)) :: E) M (n + 1)):aB Pg T N ents G ops ⟨some d,op,ty,pos,after,g⟩ rest K E M n:=by
 unfold aB tj;rw [hq];intro b hb;unfold er;simp only [hd];have:=h b hb;cases neg <;> exact this
section
variable {f:Operand} {args:Array Operand} {ats:Array TypeId} {f0:FuncId} {vs:List MV} {bs:List (Nat×Nat)} {res:MV}
theorem OG (hd: ∀d,dst=some d→a₄ d N=true) (h1: ∀R:FuncId×List MV×List (Nat×Nat)→Prop,R (f0,vs,bs)→(rI E M f args.toList).runP R) (h2:ents.contains f0=true) (hc:aE Pg G f0 vs res)
  (h:ak Pg T N ents G ops rest K (match dst with | some d=>(d,res) :: E | none=>E) (VM.bump M bs) (n + 1)):aB Pg T N ents G ops ⟨dst, .call ⟨.value f,args,ats⟩,ty,pos,after,g⟩ rest K E M n:=by
 show(vp Pg T ents G _ E M n _)∨_
 refine .inl ?_
 show(rI E M f args.toList).runP _
 refine h1 _ ?_
 show(match ents.contains f0 with | true=> ∃res,aE Pg G f0 vs res∧_ | false=>False)
 rw [h2]
 refine⟨res,hc,?_⟩
 unfold er
 cases dst with
 | none=>exact h
 | some d=>
  simp only [hd d rfl]
  exact h
theorem JR (hd: ∀d,dst=some d→a₄ d N=true) (h1: ∀R:FuncId×List MV→Prop,R (f0,vs)→(dX E f args.toList).runP R) (h2:ents.contains f0=true) {args':List MV} {M0:VM} {n0:Nat} {M1:VM} {n1:Nat} (hc:aQ Pg G f0 args' M0 n0 res M1 n1) (σ bs:List (Nat×Nat))
  (hm:eB 0 args' M0 n0 vs M σ bs) (h3:iv M σ=true) (h4:M1.all (fun x=>a₄ x.1 n1)=true) (h:ak Pg T N ents G ops rest K (match dst with | some d=>(d,dr (rK n σ) res) :: E | none=>E) (jO (rK n σ) M1 ++ iI (VM.bump M bs) σ) (n + n1)) :
  aB Pg T N ents G ops ⟨dst, .call ⟨.value f,args,ats⟩,ty,pos,after,g⟩ rest K E M n:=by
 show(vp Pg T ents G _ E M n _)∨(dX E f args.toList).runP _
 refine .inr (h1 _ ?_)
 show(match ents.contains f0 with | true=>jj Pg G ti M n f0 vs _ | false=>jj Pg G yR M n f0 vs _)
 rw [h2]
 refine⟨args',M0,n0,fun r M' n'=>r=res∧M'=M1∧n'=n1,yS (fun h k=>h.mono k) hc ⟨rfl,rfl,rfl⟩,σ,bs,hm,h3,?_⟩
 rintro _ _ _ ⟨rfl,rfl,rfl⟩
 refine⟨h4,?_⟩
 unfold er
 cases dst with
 | none=>exact h
 | some d=>
  simp only [hd d rfl]
  exact h
theorem JS (hd: ∀d,dst=some d→a₄ d N=true) (h1: ∀R:FuncId×List MV→Prop,R (f0,vs)→(dX E f args.toList).runP R) (h2:ents.contains f0=false) {args':List MV} {M0:VM} {n0:Nat} {M1:VM} {n1:Nat} (hc:L0 Pg G f0 args' M0 n0 res M1 n1) (σ bs:List (Nat×Nat))
  (hm:eB 0 args' M0 n0 vs M σ bs) (h3:iv M σ=true) (h4:M1.all (fun x=>a₄ x.1 n1)=true) (h:ak Pg T N ents G ops rest K (match dst with | some d=>(d,dr (rK n σ) res) :: E | none=>E) (jO (rK n σ) M1 ++ iI (VM.bump M bs) σ) (n + n1)) :
  aB Pg T N ents G ops ⟨dst, .call ⟨.value f,args,ats⟩,ty,pos,after,g⟩ rest K E M n:=by
 show(vp Pg T ents G _ E M n _)∨(dX E f args.toList).runP _
 refine .inr (h1 _ ?_)
 show(match ents.contains f0 with | true=>jj Pg G ti M n f0 vs _ | false=>jj Pg G yR M n f0 vs _)
 rw [h2]
 refine⟨args',M0,n0,fun r M' n'=>r=res∧M'=M1∧n'=n1,yS (fun h k=>h.mono k) hc ⟨rfl,rfl,rfl⟩,σ,bs,hm,h3,?_⟩
 rintro _ _ _ ⟨rfl,rfl,rfl⟩
 refine⟨h4,?_⟩
 unfold er
 cases dst with
 | none=>exact h
 | some d=>
  simp only [hd d rfl]
  exact h
end
def Jl (T:bB) (N:Nat) (E:VE) (o:Oper):Bool:=(match xl T E o with | none=>true | some _=>false) && (gx o.op && (match o.dst with | some d=>a₄ d N | none=>true))
theorem gL (h:Jl T N E o=true):xl T E o=none∧gx o.op=true∧∀d,o.dst=some d→a₄ d N=true:=by
 unfold Jl at h;simp only [a₀] at h;obtain⟨h1,h2,h3⟩:=h;refine⟨?_,h2,fun d hd=>?_⟩
 ·split at h1
  ·assumption
  ·cases h1
 ·rw [hd] at h3;exact h3
theorem wb (hb:Jl T N E ⟨some d,op,ty,pos,after,none⟩=true) (he: ∀R:MV×Dl→Prop,R (r, .none)→(iH Pg T (VE.get E) (VM.get M) n ⟨some d,op,ty,pos,after,none⟩).runP R) (h:ak Pg T N ents G ops rest K ((d,r) :: E) M (n + 1)):ak Pg T N ents G ops (⟨some d,op,ty,pos,after,none⟩ :: rest) K E M n:=
 zz (py (gL hb).1 (gL hb).2.1 he ((gL hb).2.2 d rfl) h)
theorem tS (hb:Jl T N E ⟨some d,op,ty,pos,after,none⟩=true) (he: ∀R:MV×Dl→Prop,R (r,δ)→(iH Pg T (VE.get E) (VM.get M) n ⟨some d,op,ty,pos,after,none⟩).runP R) (h:ak Pg T N ents G ops rest K ((d,r) :: E) (δ.app n M) (n + 1)):ak Pg T N ents G ops (⟨some d,op,ty,pos,after,none⟩ :: rest) K E M n:=
 zz (aL (gL hb).1 (gL hb).2.1 he ((gL hb).2.2 d rfl) h)
theorem qJ (hb:Jl T N E ⟨none,op,ty,pos,after,none⟩=true) (he: ∀R:MV×Dl→Prop,R (r,δ)→(iH Pg T (VE.get E) (VM.get M) n ⟨none,op,ty,pos,after,none⟩).runP R) (h:ak Pg T N ents G ops rest K E (δ.app n M) (n + 1)):ak Pg T N ents G ops (⟨none,op,ty,pos,after,none⟩ :: rest) K E M n:=
 zz (qI (gL hb).1 (gL hb).2.1 he h)
theorem tT (hs:(ops[j]?).bind (·.dst)=some s) (hv:VE.get E s=some (.bool want)) (hb:Jl T N ((s, .bool want) :: E) ⟨some d,op,ty,pos,after,some (j,want)⟩=true) (he: ∀R:MV×Dl→Prop,R (r, .none)→(iH Pg T (VE.get ((s, .bool want) :: E)) (VM.get M) n ⟨some d,op,ty,pos,after,some (j,want)⟩).runP R)
  (h:ak Pg T N ents G ops rest K ((d,r) :: (s, .bool want) :: E) M (n + 1)):ak Pg T N ents G ops (⟨some d,op,ty,pos,after,some (j,want)⟩ :: rest) K E M n:=
 kq hs hv (py (gL hb).1 (gL hb).2.1 he ((gL hb).2.2 d rfl) h)
theorem tU {l:List Oper} (h:ak Pg T N ents G (a₅ l) l (aW Pg T N ents G n0 y Q .normal) E M n):vC Pg T N ents G n0 (.seq (.region id (a₅ l) false) y) Q E M n:=h
theorem xD (h:vC Pg T N ents G n0 y Q E M n):ak Pg T N ents G ops [] (aW Pg T N ents G n0 y Q .normal) E M n:=Rs.go h
section
variable {f:Operand} {args:Array Operand} {ats:Array TypeId} {f0:FuncId} {vs:List MV} {bs:List (Nat×Nat)} {res:MV}
theorem bC (hd:a₄ d N=true) (h1: ∀R:FuncId×List MV→Prop,R (f0,vs)→(dX E f args.toList).runP R) (h2:ents.contains f0=true) {args':List MV} {M0:VM} {n0:Nat} {M1:VM} {n1:Nat} (hc:aQ Pg G f0 args' M0 n0 res M1 n1) (σ bs:List (Nat×Nat))
  (hm:eB 0 args' M0 n0 vs M σ bs) (h3:iv M σ=true) (h4:M1.all (fun x=>a₄ x.1 n1)=true) (h:ak Pg T N ents G ops rest K ((d,dr (rK n σ) res) :: E) (jO (rK n σ) M1 ++ iI (VM.bump M bs) σ) (n + n1)) :
  aB Pg T N ents G ops ⟨some d, .call ⟨.value f,args,ats⟩,ty,pos,after,g⟩ rest K E M n:=JR (fun d' e=>by injection e with e;subst e;exact hd) h1 h2 hc σ bs hm h3 h4 h
theorem tV (hd:a₄ d N=true) (h1: ∀R:FuncId×List MV→Prop,R (f0,vs)→(dX E f args.toList).runP R) (h2:ents.contains f0=true) {args':List MV} {M0:VM} {n0:Nat} {Φ:MV→VM→Nat→Prop} (hc:ti Pg G f0 args' M0 n0 Φ) (σ bs:List (Nat×Nat))
  (hm:eB 0 args' M0 n0 vs M σ bs) (h3:iv M σ=true) (h: ∀(res:MV) (M1:VM) (n1:Nat),Φ res M1 n1→M1.all (fun x=>a₄ x.1 n1)=true∧ak Pg T N ents G ops rest K ((d,dr (rK n σ) res) :: E) (jO (rK n σ) M1 ++ iI (VM.bump M bs) σ) (n + n1)) :
  aB Pg T N ents G ops ⟨some d, .call ⟨.value f,args,ats⟩,ty,pos,after,g⟩ rest K E M n:=by
 show(vp Pg T ents G _ E M n _)∨(dX E f args.toList).runP _
 refine .inr (h1 _ ?_)
 show(match ents.contains f0 with | true=>jj Pg G ti M n f0 vs _ | false=>jj Pg G yR M n f0 vs _)
 rw [h2]
 refine⟨args',M0,n0,Φ,hc,σ,bs,hm,h3,fun r M' n' hΦ=>⟨(h r M' n' hΦ).1,?_⟩⟩
 unfold er
 simp only [hd]
 exact(h r M' n' hΦ).2
theorem GY (hd:a₄ d N=true) (h1: ∀R:FuncId×List MV→Prop,R (f0,vs)→(dX E f args.toList).runP R) (h2:ents.contains f0=false) {args':List MV} {M0:VM} {n0:Nat} {M1:VM} {n1:Nat} (hc:L0 Pg G f0 args' M0 n0 res M1 n1) (σ bs:List (Nat×Nat))
  (hm:eB 0 args' M0 n0 vs M σ bs) (h3:iv M σ=true) (h4:M1.all (fun x=>a₄ x.1 n1)=true) (h:ak Pg T N ents G ops rest K ((d,dr (rK n σ) res) :: E) (jO (rK n σ) M1 ++ iI (VM.bump M bs) σ) (n + n1)) :
  aB Pg T N ents G ops ⟨some d, .call ⟨.value f,args,ats⟩,ty,pos,after,g⟩ rest K E M n:=JS (fun d' e=>by injection e with e;subst e;exact hd) h1 h2 hc σ bs hm h3 h4 h
end
theorem od (E':VE) (M':VM) (bs:List (Nat×Nat)) (h1:Bd M bs) (h2:M'.all (fun x=>a₄ x.1 n)=true) (h3:mE (da n []) (kI M bs) E' E) (h4:mM (da n []) (kI M bs) M' (VM.bump M bs)) (h:ak Pg T N ents G ops (o :: rest) K E' M' n):ak Pg T N ents G ops (o :: rest) K E M n:=
 Rt.re E' M' ⟨bs,h1,h2,h3,h4⟩ h
end
end
section
section
variable {Pg:Program} {T:bB} {N:Nat} {ents:List FuncId} {G:GS} {ops:Array Oper} {dst:Option Tmp} {d:Tmp} {op:Op} {ty:TypeId} {pos:String} {after:Array Edge} {g:Option (Nat×Bool)} {K:VK} {r:MV} {δ:Dl} {o:Oper} {j s k:Nat} {want t rf:Bool}
 {E:VE} {M:VM} {n:Nat} {J:List Nat→VE→VM→Prop} {L:List (Nat×Bool)} {A:List xB} {fp:List Nat}
def aN (Pg:Program) (T:bB) (N:Nat) (ents:List FuncId) (G:GS) (ops:Array Oper) (L:List (Nat×Bool)) (A:List xB) (K:VK) (k n:Nat) (rf:Bool):List Nat→VE→VM→Prop:=fun fp E M=>aD Pg T N ents G ops L (⟨k,n,rf,fp⟩ :: A) K E M (n + 1)
theorem zB (ho:gK ops A.reverse=true) (h:K E M n):aD Pg T N ents G ops [] A K E M n:=⟨ho,h⟩
def tW:List Oper→Nat→Option Oper
 | [],_=>none
 | o :: _,0=>some o
 | _ :: l,k + 1=>tW l k
theorem CO: ∀(l:List Oper) (k:Nat),l[k]? =tW l k
 | [],_=>by simp [tW]
 | o :: _,0=>rfl
 | o :: l,k + 1=>by simp [tW,CO l k]
theorem kX {l:List Oper} (ho:tW l k=some o) (h:sh Pg T N ents G (a₅ l) rf o (aN Pg T N ents G (a₅ l) L A K k n rf) E M n):aD Pg T N ents G (a₅ l) ((k,rf) :: L) A K E M n:=by
 unfold aD;have e:(a₅ l)[k]? =some o:=by rw [← ho,← CO];simp
 simp only [e];exact h
theorem tX (h:aD Pg T N ents G ops L (⟨k,n,rf,fp⟩ :: A) K E M (n + 1)):aN Pg T N ents G ops L A K k n rf fp E M:=h
def aI (Pg:Program) (T:bB) (N:Nat) (ents:List FuncId) (G:GS) (rf:Bool) (o:Oper) (J:List Nat→VE→VM→Prop) (E:VE) (M:VM) (n:Nat):Prop:=o5 Pg T ents G rf o E M n fun r M fp=>er N o.dst r E fun E=>J fp E M
theorem zC (h:aI Pg T N ents G rf ⟨dst,op,ty,pos,after,none⟩ J E M n):sh Pg T N ents G ops rf ⟨dst,op,ty,pos,after,none⟩ J E M n:=h
theorem eP (hs:(ops[j]?).bind (·.dst)=some s) (hv:VE.get E s=some (.bool t)) (h1:t=want→aI Pg T N ents G rf ⟨some d,op,ty,pos,after,some (j,want)⟩ J ((s, .bool want) :: E) M n) (hd:a₄ d N=true)
  (h2:t= !want→J (bif rf then [] else numsO (VE.get E) op.operands.toList) ((d, .undef) :: (s, .bool (!want)) :: E) M):sh Pg T N ents G ops rf ⟨some d,op,ty,pos,after,some (j,want)⟩ J E M n:=by
 unfold sh
 simp only [hs,hv]
 refine⟨h1,fun ht=>?_⟩
 unfold er
 simp only [hd]
 exact h2 ht
theorem ku (hs:(ops[j]?).bind (·.dst)=some s) (hv:VE.get E s=some (.bool want)) (h:aI Pg T N ents G rf ⟨dst,op,ty,pos,after,some (j,want)⟩ J ((s, .bool want) :: E) M n):sh Pg T N ents G ops rf ⟨dst,op,ty,pos,after,some (j,want)⟩ J E M n:=by
 unfold sh;simp only [hs,hv];exact⟨fun _=>h,fun ht=>by cases want <;> cases ht⟩
theorem lY (hs:(ops[j]?).bind (·.dst)=some s) (hv:VE.get E s=some (.bool (!want))) (hd:a₄ d N=true) (h:J (bif rf then [] else numsO (VE.get E) op.operands.toList) ((d, .undef) :: (s, .bool (!want)) :: E) M):sh Pg T N ents G ops rf ⟨some d,op,ty,pos,after,some (j,want)⟩ J E M n:=
 eP hs hv (fun ht=>by cases want <;> cases ht) hd (fun _=>h)
theorem lZ (hs:(ops[j]?).bind (·.dst)=some s) (hv:VE.get E s=some .undef) (hd:a₄ d N=true) (h:J (bif rf then [] else numsO (VE.get E) op.operands.toList) ((d, .undef) :: E) M):sh Pg T N ents G ops rf ⟨some d,op,ty,pos,after,some (j,want)⟩ J E M n:=by
 unfold sh;simp only [hs,hv];unfold er;simp only [hd];exact h
theorem BD (hv:gx op=true) (he: ∀R:MV×Dl→Prop,R (r,δ)→(iH Pg T (VE.get E) (VM.get M) n ⟨dst,op,ty,pos,after,g⟩).runP R)
  (h:er N dst r E fun E2=>J (numsO (VE.get E) op.operands.toList) E2 (δ.app n M)):aI Pg T N ents G false ⟨dst,op,ty,pos,after,g⟩ J E M n:=by
 unfold aI o5 vp
 dsimp only
 cases op with
 | call c=>
  obtain⟨callee,args,ats⟩:=c
  cases callee with
  | value f=>cases hv
  | builtin b=>exact he _ h
  | invoke r n=>exact he _ h
 | _=>exact he _ h
theorem oe (hv:gx op=true) (he: ∀R:MV×Dl→Prop,R (r, .none)→(iH Pg T (VE.get E) (VM.get M) n ⟨some d,op,ty,pos,after,g⟩).runP R) (hd:a₄ d N=true)
  (h:J (numsO (VE.get E) op.operands.toList) ((d,r) :: E) M):aI Pg T N ents G false ⟨some d,op,ty,pos,after,g⟩ J E M n:=by
 refine BD hv he ?_
 unfold er
 simp only [hd]
 exact h
theorem aZ (hv:gx op=true) (he: ∀R:MV×Dl→Prop,R (r,δ)→(iH Pg T (VE.get E) (VM.get M) n ⟨some d,op,ty,pos,after,g⟩).runP R) (hd:a₄ d N=true)
  (h:J (numsO (VE.get E) op.operands.toList) ((d,r) :: E) (δ.app n M)):aI Pg T N ents G false ⟨some d,op,ty,pos,after,g⟩ J E M n:=by
 refine BD hv he ?_
 unfold er
 simp only [hd]
 exact h
theorem mY (hv:gx op=true) (he: ∀R:MV×Dl→Prop,R (r,δ)→(iH Pg T (VE.get E) (VM.get M) n ⟨none,op,ty,pos,after,g⟩).runP R)
  (h:J (numsO (VE.get E) op.operands.toList) E (δ.app n M)):aI Pg T N ents G false ⟨none,op,ty,pos,after,g⟩ J E M n:=BD hv he h
theorem wc {l:List Oper} (ho:tW l k=some ⟨some d,op,ty,pos,after,none⟩) (hb:(gx op && a₄ d N)=true) (he: ∀R:MV×Dl→Prop,R (r, .none)→(iH Pg T (VE.get E) (VM.get M) n ⟨some d,op,ty,pos,after,none⟩).runP R)
  (h:aD Pg T N ents G (a₅ l) L (⟨k,n,false,numsO (VE.get E) op.operands.toList⟩ :: A) K ((d,r) :: E) M (n + 1)):aD Pg T N ents G (a₅ l) ((k,false) :: L) A K E M n:=by
 rw [a₀] at hb
 exact kX ho (zC (oe hb.1 he hb.2 h))
theorem zD {l:List Oper} (ho:tW l k=some ⟨some d,op,ty,pos,after,none⟩) (hb:(gx op && a₄ d N)=true) (he: ∀R:MV×Dl→Prop,R (r,δ)→(iH Pg T (VE.get E) (VM.get M) n ⟨some d,op,ty,pos,after,none⟩).runP R)
  (h:aD Pg T N ents G (a₅ l) L (⟨k,n,false,numsO (VE.get E) op.operands.toList⟩ :: A) K ((d,r) :: E) (δ.app n M) (n + 1)):aD Pg T N ents G (a₅ l) ((k,false) :: L) A K E M n:=by
 rw [a₀] at hb
 exact kX ho (zC (aZ hb.1 he hb.2 h))
theorem qK {l:List Oper} (ho:tW l k=some ⟨none,op,ty,pos,after,none⟩) (hb:gx op=true) (he: ∀R:MV×Dl→Prop,R (r,δ)→(iH Pg T (VE.get E) (VM.get M) n ⟨none,op,ty,pos,after,none⟩).runP R)
  (h:aD Pg T N ents G (a₅ l) L (⟨k,n,false,numsO (VE.get E) op.operands.toList⟩ :: A) K E (δ.app n M) (n + 1)):aD Pg T N ents G (a₅ l) ((k,false) :: L) A K E M n:=
 kX ho (zC (mY hb he h))
theorem tY {l:List Oper} (ho:tW l k=some ⟨some d,op,ty,pos,after,some (j,want)⟩) (hs:((a₅ l)[j]?).bind (·.dst)=some s) (hv:VE.get E s=some (.bool want)) (hb:(gx op && a₄ d N)=true) (he: ∀R:MV×Dl→Prop,R (r, .none)→(iH Pg T (VE.get ((s, .bool want) :: E)) (VM.get M) n ⟨some d,op,ty,pos,after,some (j,want)⟩).runP R)
  (h:aD Pg T N ents G (a₅ l) L (⟨k,n,false,numsO (VE.get ((s, .bool want) :: E)) op.operands.toList⟩ :: A) K ((d,r) :: (s, .bool want) :: E) M (n + 1)):aD Pg T N ents G (a₅ l) ((k,false) :: L) A K E M n:=by
 rw [a₀] at hb
 exact kX ho (ku hs hv (oe hb.1 he hb.2 h))
section
variable {f:Operand} {args:Array Operand} {ats:Array TypeId} {f0:FuncId} {vs:List MV} {bs:List (Nat×Nat)} {res:MV}
theorem NI (hd: ∀d,dst=some d→a₄ d N=true) (h1: ∀R:FuncId×List MV×List (Nat×Nat)→Prop,R (f0,vs,bs)→(rI E M f args.toList).runP R) (h2:ents.contains f0=true) (hc:aE Pg G f0 vs res)
  (h:J (numsO (VE.get E) (Op.call ⟨.value f,args,ats⟩).operands.toList) (match dst with | some d=>(d,res) :: E | none=>E) (VM.bump M bs)):aI Pg T N ents G false ⟨dst, .call ⟨.value f,args,ats⟩,ty,pos,after,g⟩ J E M n:=by
 show(rI E M f args.toList).runP _
 refine h1 _ ?_
 show(match ents.contains f0 with | true=> ∃res,aE Pg G f0 vs res∧_ | false=>False)
 rw [h2]
 refine⟨res,hc,?_⟩
 unfold er
 cases dst with
 | none=>exact h
 | some d=>
  simp only [hd d rfl]
  exact h
theorem GZ (hd: ∀d,dst=some d→a₄ d N=true) (h1: ∀R:FuncId×List MV→Prop,R (f0,vs)→(dX E f args.toList).runP R) (h2:ents.contains f0=true) (fp:List Nat) {args':List MV} {M0:VM} {n0:Nat} {M1:VM} {n1:Nat} (hc:aQ Pg G f0 args' M0 n0 res M1 n1) (σ bs:List (Nat×Nat))
  (hm:eB 0 args' M0 n0 vs M σ bs) (h3:iv M σ=true) (h4:CH σ n0 n1 M1=true) (h5:vq (σ.map (·.2)) fp=true) (h6:vq (bs.map (·.1)) fp=true)
  (h:J fp (match dst with | some d=>(d,dr (jA n σ) res) :: E | none=>E) (jO (jA n σ) M1 ++ iI (VM.bump M bs) σ)):aI Pg T N ents G true ⟨dst, .call ⟨.value f,args,ats⟩,ty,pos,after,g⟩ J E M n:=by
 show(dX E f args.toList).runP _
 refine h1 _ ?_
 show(match ents.contains f0 with | true=> ∃fp,lO Pg G M n f0 vs fp _ | false=>False)
 rw [h2]
 refine⟨fp,args',M0,n0,res,M1,n1,hc,σ,bs,hm,h3,h4,h5,h6,?_⟩
 unfold er
 cases dst with
 | none=>exact h
 | some d=>
  simp only [hd d rfl]
  exact h
theorem cK (hd:a₄ d N=true) (h1: ∀R:FuncId×List MV→Prop,R (f0,vs)→(dX E f args.toList).runP R) (h2:ents.contains f0=true) (fp:List Nat) {args':List MV} {M0:VM} {n0:Nat} {M1:VM} {n1:Nat} (hc:aQ Pg G f0 args' M0 n0 res M1 n1) (σ bs:List (Nat×Nat))
  (hm:eB 0 args' M0 n0 vs M σ bs) (h3:iv M σ=true) (h4:CH σ n0 n1 M1=true) (h5:vq (σ.map (·.2)) fp=true) (h6:vq (bs.map (·.1)) fp=true)
  (h:J fp ((d,dr (jA n σ) res) :: E) (jO (jA n σ) M1 ++ iI (VM.bump M bs) σ)):aI Pg T N ents G true ⟨some d, .call ⟨.value f,args,ats⟩,ty,pos,after,g⟩ J E M n:=GZ (fun d' e=>by injection e with e;subst e;exact hd) h1 h2 fp hc σ bs hm h3 h4 h5 h6 h
end
end
end
section
mutual
def dM:MV→Bool
 | .tup l=>qL l
 | .undef=>true
 | m=>m.idFree
def qL:List MV→Bool
 | [] =>true
 | m :: l=>dM m && qL l
end
theorem qM {ρ:Nat→Nat}: ∀m:MV,m.idFree=true→dr ρ m=m
 | .st l,h=>by
  have h:MV.idFrees l=true:=h
  simp only [dr,h,cond_true]
 | .fn f l,h=>by
  have h:MV.idFrees l=true:=h
  simp only [dr,h,cond_true]
 | .ifc t v,h=>by
  have h:MV.idFree v=true:=h
  simp only [dr,h,cond_true]
 | .ptr ..,h=>by cases h
 | .ms ..,h=>by cases h
 | .tup ..,h=>by cases h
 | .undef,h=>by cases h
 | .mp _,h=>by cases h
 | .mpv ..,h=>by cases h
 | .int ..,_=>by simp only [dr]
 | .bool ..,_=>by simp only [dr]
 | .str ..,_=>by simp only [dr]
 | .nilp,_=>by simp only [dr]
 | .gp ..,_=>by simp only [dr]
 | .ep ..,_=>by simp only [dr]
 | .sl ..,_=>by simp only [dr]
 | .nils,_=>by simp only [dr]
 | .nilf,_=>by simp only [dr]
 | .nili,_=>by simp only [dr]
 | .arr ..,_=>by simp only [dr]
mutual
theorem jl {ρ:Nat→Nat}: ∀m:MV,dM m=true→dr ρ m=m
 | .tup l,h=>by
  simp only [dM] at h
  simp only [dr,rO l h]
 | .undef,_=>by simp only [dr]
 | .st l,h=>qM _ (by simpa only [dM] using h)
 | .fn f l,h=>qM _ (by simpa only [dM] using h)
 | .ifc t v,h=>qM _ (by simpa only [dM] using h)
 | .ptr ..,h=>by simp only [dM] at h;cases h
 | .ms ..,h=>by simp only [dM] at h;cases h
 | .mp _,h=>by simp only [dM] at h;cases h
 | .mpv ..,h=>by simp only [dM] at h;cases h
 | .int ..,_=>by simp only [dr]
 | .bool ..,_=>by simp only [dr]
 | .str ..,_=>by simp only [dr]
 | .nilp,_=>by simp only [dr]
 | .gp ..,_=>by simp only [dr]
 | .ep ..,_=>by simp only [dr]
 | .sl ..,_=>by simp only [dr]
 | .nils,_=>by simp only [dr]
 | .nilf,_=>by simp only [dr]
 | .nili,_=>by simp only [dr]
 | .arr ..,_=>by simp only [dr]
theorem rO {ρ:Nat→Nat}: ∀l:List MV,qL l=true→renVs ρ l=l
 | [],_=>by simp only [renVs]
 | m :: l,h=>by
  simp only [qL,a₀] at h
  simp only [renVs,jl m h.1,rO l h.2]
end
section
variable {Pg:Program} {T:bB} {N:Nat} {ents:List FuncId} {G:GS} {ops:Array Oper} {d:Tmp} {ty:TypeId} {pos:String} {after:Array Edge} {g:Option (Nat×Bool)} {rest:List Oper} {K:VK} {E:VE} {M:VM} {n:Nat}
 {f:Operand} {args:Array Operand} {ats:Array TypeId} {f0:FuncId} {vs:List MV} {res:MV} {J:List Nat→VE→VM→Prop}
theorem bX (hd:a₄ d N=true) (h1: ∀R:FuncId×List MV→Prop,R (f0,vs)→(dX E f args.toList).runP R) (h2:ents.contains f0=true) {args':List MV} (hc:aQ Pg G f0 args' [] 0 res [] 0) (hf:dM res=true) (bs:List (Nat×Nat)) (hb:Bd M bs)
  (hm:eu.relVs (da 0 []) (kI M bs) args' vs) (h:ak Pg T N ents G ops rest K ((d,res) :: E) (VM.bump M bs) n):aB Pg T N ents G ops ⟨some d, .call ⟨.value f,args,ats⟩,ty,pos,after,g⟩ rest K E M n:=by
 refine bC hd h1 h2 hc [] bs ⟨rfl,hb,rfl,hm,trivial⟩ rfl rfl ?_
 rw [jl res hf]
 exact h
theorem sC (hd:a₄ d N=true) (h1: ∀R:FuncId×List MV→Prop,R (f0,vs)→(dX E f args.toList).runP R) (h2:ents.contains f0=true) {args':List MV} (hc:aQ Pg G f0 args' [] 0 res [] 0) (hf:dM res=true)
  (hm:eu.relVs (da 0 []) (kI M []) args' vs) (h:ak Pg T N ents G ops rest K ((d,res) :: E) M n):aB Pg T N ents G ops ⟨some d, .call ⟨.value f,args,ats⟩,ty,pos,after,g⟩ rest K E M n:=
 bX hd h1 h2 hc hf [] trivial hm h
theorem bQ (hd:a₄ d N=true) (h1: ∀R:FuncId×List MV→Prop,R (f0,vs)→(dX E f args.toList).runP R) (h2:ents.contains f0=true) (fp:List Nat) {args':List MV} (hc:aQ Pg G f0 args' [] 0 res [] 0) (hf:dM res=true) (bs:List (Nat×Nat)) (hb:Bd M bs)
  (hm:eu.relVs (da 0 []) (kI M bs) args' vs) (h6:vq (bs.map (·.1)) fp=true) (h:J fp ((d,res) :: E) (VM.bump M bs)):aI Pg T N ents G true ⟨some d, .call ⟨.value f,args,ats⟩,ty,pos,after,g⟩ J E M n:=by
 refine cK hd h1 h2 fp hc [] bs ⟨rfl,hb,rfl,hm,trivial⟩ rfl rfl rfl h6 ?_
 rw [jl res hf]
 exact h
end
end
section
section
variable {Pg:Program} {T:bB} {E:VE} {M:VM} {n:Nat} {dst:Option Tmp} {t ty:TypeId} {pos:String} {after:Array Edge} {g:Option (Nat×Bool)} {R:MV×Dl→Prop} {x y:Operand} {c es k fo:Nat} {path:List Nat} {b:MB} {m m' r v:MV} {d:TD}
def EI (T:bB) (t:TypeId) (es' es:Nat) (r:MV):Bool:=match bB.find T t with | some d=>a₆ es' es && fits d r | none=>false
def G0 (T:bB) (t:TypeId) (es' es:Nat) (row:Bool) (v:MV):Bool:=match bB.find T t with | some d=>a₆ es' es && fits d v && (!row || v.idFree) | none=>false
def xE:MV→List Nat→Option MV
 | m,[] =>some m
 | .st l,i :: p=>match bW l i with
  | some m=>xE m p
  | none=>none
 | .arr _ _ l,i :: p=>match bW l i with
  | some m=>xE m p
  | none=>none
 | _,_ :: _=>none
def JT:MV→List Nat→Nat→Bool
 | _,[],fo=>a₆ fo 0
 | .st l,i :: p,fo=>match bW l i with
  | some m=>d₃ (fa l i) fo && JT m p (fo - fa l i)
  | none=>false
 | .arr _ es l,i :: p,fo=>match bW l i with
  | some m=>d₃ (i * es) fo && JT m p (fo - i * es)
  | none=>false
 | _,_ :: _,_=>false
theorem l6: ∀{p:List Nat} {m:MV} {fo:Nat},JT m p fo=true→fc m p fo=xE m p
 | [],m,fo,h=>by
  have h':a₆ fo 0=true:=by unfold JT at h;exact h
  unfold fc xE
  rw [h']
  rfl
 | i :: p,m,fo,h=>by
  unfold JT at h
  unfold fc xE
  split at h
  ·exact nomatch ‹i :: p= []›
  ·rename_i heq
   injection heq with h1 h2
   subst h1 h2
   dsimp only
   split at h
   ·rename_i hn
    rw [a₀] at h
    rw [hn]
    dsimp only
    rw [h.1]
    exact l6 h.2
   ·exact a₃ h
  ·rename_i heq
   injection heq with h1 h2
   subst h1 h2
   dsimp only
   split at h
   ·rename_i hn
    rw [a₀] at h
    rw [hn]
    dsimp only
    rw [h.1]
    exact l6 h.2
   ·exact a₃ h
  ·exact a₃ h
def zE:MV→List Nat→MV→Option MV
 | _,[],v=>some v
 | .st l,i :: p,v=>match bW l i with
  | some m=>(match zE m p v with | some m'=>some (.st (setL l i m')) | none=>none)
  | none=>none
 | .arr n es l,i :: p,v=>match bW l i with
  | some m=>(match zE m p v with | some m'=>some (.arr n es (setL l i m')) | none=>none)
  | none=>none
 | _,_ :: _,_=>none
def rP:MV→List Nat→Nat→MV→Bool
 | m,[],fo,v=>(a₆ fo 0 && a₆ v.size m.size) && Ju v.isAgg m.isAgg
 | .st l,i :: p,fo,v=>match bW l i with
  | some m=>d₃ (fa l i) fo && rP m p (fo - fa l i) v
  | none=>false
 | .arr _ es l,i :: p,fo,v=>match bW l i with
  | some m=>(d₃ (i * es) fo && v.idFree) && rP m p (fo - i * es) v
  | none=>false
 | _,_ :: _,_,_=>false
theorem l7: ∀{p:List Nat} {m:MV} {fo:Nat} {v:MV},rP m p fo v=true→ff m p fo v=zE m p v
 | [],m,fo,v,h=>by
  have h':((a₆ fo 0 && a₆ v.size m.size) && Ju v.isAgg m.isAgg)=true:=by unfold rP at h;exact h
  rw [a₀] at h'
  unfold ff zE
  rw [h'.1]
  have h2:=h'.2
  generalize v.isAgg=a at *
  generalize m.isAgg=b at *
  cases a <;> cases b <;> first | rfl | exact a₃ h2
 | i :: p,m,fo,v,h=>by
  unfold rP at h
  unfold ff zE
  split at h
  ·exact nomatch ‹i :: p= []›
  ·rename_i heq
   injection heq with h1 h2
   subst h1 h2
   dsimp only
   split at h
   ·rename_i hn
    rw [a₀] at h
    rw [hn]
    dsimp only
    rw [h.1,l7 h.2]
    rfl
   ·exact a₃ h
  ·rename_i heq
   injection heq with h1 h2
   subst h1 h2
   dsimp only
   split at h
   ·rename_i hn
    rw [a₀] at h
    rw [hn]
    dsimp only
    rw [h.1,l7 h.2]
    rfl
   ·exact a₃ h
  ·exact a₃ h
theorem xF (hp:iV (VE.get E) x=some (.ptr c es k fo path)) (hc:VM.get M c=some b) (hm:bW b.l k=some m) (hr:fc m path fo=some r) (hk:EI T t b.es es r=true) (hR:R (r, .none)):(iH Pg T (VE.get E) (VM.get M) n ⟨dst, .load t x,ty,pos,after,g⟩).runP R:=by
 show(rd (VE.get E) x fun p=>gG T (VM.get M) t p).runP R
 unfold rd;rw [hp];unfold EI at hk
 show(gG T (VM.get M) t (.ptr c es k fo path)).runP R
 unfold gG;cases ht:bB.find T t with
 | none=>rw [ht] at hk;exact a₃ hk
 | some d=>
  rw [ht] at hk;simp only [a₀] at hk;simp only [hc,hk.1,cond_true];refine⟨m,hm,r,hr,?_⟩;simp only [hk.2,cond_true];exact hR
theorem tZ (hp:iV (VE.get E) x=some (.ptr c es k fo path)) (hy:iV (VE.get E) y=some v) (hc:VM.get M c=some b) (hpe:b.pe≤k) (hm:bW b.l k=some m) (hs:ff m path fo v=some m') (hk:G0 T t b.es es b.row v=true) (hR:R (.undef, .upd c (setL b.l k m'))):(iH Pg T (VE.get E) (VM.get M) n ⟨dst, .store t x y,ty,pos,after,g⟩).runP R:=by
 show(rd (VE.get E) x fun p=>rd (VE.get E) y fun v=>fZ T (VM.get M) t p v).runP R
 unfold rd;rw [hp];dsimp only;rw [hy];unfold G0 at hk
 show(fZ T (VM.get M) t (.ptr c es k fo path) v).runP R
 unfold fZ;cases ht:bB.find T t with
 | none=>rw [ht] at hk;exact a₃ hk
 | some d=>
  rw [ht] at hk;simp only [hc];have hk':(a₆ b.es es && fits d v && (!b.row || v.idFree))=true:=hk;rw [hk'];exact⟨hpe,m,hm,m',hs,_,rfl,hR⟩
theorem ua (hx:iV (VE.get E) x=some v) (ht:bB.find T t=some d) (hk:fits d v=true) (hR:R (.ptr n d.size 0 0 [], .new ⟨t,d.size,false,0,[v]⟩)):(iH Pg T (VE.get E) (VM.get M) n ⟨dst, .box t x,ty,pos,after,g⟩).runP R:=by
 show(rd (VE.get E) x fun v=>yF T n t v).runP R
 unfold rd;rw [hx]
 show(yF T n t v).runP R
 unfold yF;rw [ht];simp only [hk,cond_true];exact hR
theorem l8 (ht:bB.find T t=some d) (hz:im T 9 t=some v) (hk:fits d v=true) (hR:R (.ptr n d.size 0 0 [], .new ⟨t,d.size,false,0,[v]⟩)):(iH Pg T (VE.get E) (VM.get M) n ⟨dst, .alloc t,ty,pos,after,g⟩).runP R:=by
 show(kN T n t).runP R
 unfold kN;rw [ht,hz];simp only [hk,cond_true];exact hR
theorem l9 (hp:iV (VE.get E) x=some (.ptr c es k fo path)) (hc:VM.get M c=some b) (hm:bW b.l k=some m) (hr:xE m path=some r) (hk:(EI T t b.es es r && JT m path fo)=true) (hR:R (r, .none)):(iH Pg T (VE.get E) (VM.get M) n ⟨dst, .load t x,ty,pos,after,g⟩).runP R:=by
 rw [a₀] at hk;exact xF hp hc hm ((l6 hk.2).trans hr) hk.1 hR
theorem mZ (hp:iV (VE.get E) x=some (.ptr c es k fo path)) (hy:iV (VE.get E) y=some v) (hc:VM.get M c=some b) (hpe:b.pe≤k) (hm:bW b.l k=some m) (hs:zE m path v=some m') (hk:(G0 T t b.es es b.row v && rP m path fo v)=true) (hR:R (.undef, .upd c (setL b.l k m'))):(iH Pg T (VE.get E) (VM.get M) n ⟨dst, .store t x y,ty,pos,after,g⟩).runP R:=by
 rw [a₀] at hk;exact tZ hp hy hc hpe hm ((l7 hk.2).trans hs) hk.1 hR
variable {N:Nat} {ents:List FuncId} {G:GS} {ops:Array Oper} {rest:List Oper} {K:VK} {dd:Tmp}
theorem ub (hp:iV (VE.get E) x=some (.ptr c es k fo path)) (hc:VM.get M c=some b) (hm:bW b.l k=some m) (hr:xE m path=some r) (hk:((Jl T N E ⟨some dd, .load t x,ty,pos,after,none⟩ && EI T t b.es es r) && JT m path fo)=true) (h:ak Pg T N ents G ops rest K ((dd,r) :: E) M (n + 1)):ak Pg T N ents G ops (⟨some dd, .load t x,ty,pos,after,none⟩ :: rest) K E M n:=by
 rw [a₀,a₀] at hk;exact wb hk.1.1 (fun R hR=>xF hp hc hm ((l6 hk.2).trans hr) hk.1.2 hR) h
theorem pz (hp:iV (VE.get E) x=some (.ptr c es k fo path)) (hy:iV (VE.get E) y=some v) (hc:VM.get M c=some b) (hpe:b.pe≤k) (hm:bW b.l k=some m) (hs:zE m path v=some m') (hk:((Jl T N E ⟨none, .store t x y,ty,pos,after,none⟩ && G0 T t b.es es b.row v) && rP m path fo v)=true) (h:ak Pg T N ents G ops rest K E (Dl.app n (.upd c (setL b.l k m')) M) (n + 1)):ak Pg T N ents G ops (⟨none, .store t x y,ty,pos,after,none⟩ :: rest) K E M n:=by
 rw [a₀,a₀] at hk;exact qJ hk.1.1 (fun R hR=>tZ hp hy hc hpe hm ((l7 hk.2).trans hs) hk.1.2 hR) h
theorem uc {l:List Oper} {q:Nat} {L:List (Nat×Bool)} {A:List xB} (ho:tW l q=some ⟨some dd, .load t x,ty,pos,after,none⟩) (hp:iV (VE.get E) x=some (.ptr c es k fo path)) (hc:VM.get M c=some b) (hm:bW b.l k=some m) (hr:xE m path=some r) (hk:((a₄ dd N && EI T t b.es es r) && JT m path fo)=true) (h:aD Pg T N ents G (a₅ l) L (⟨q,n,false,numsO (VE.get E) (Op.load t x).operands.toList⟩ :: A) K ((dd,r) :: E) M (n + 1)):aD Pg T N ents G (a₅ l) ((q,false) :: L) A K E M n:=by
 rw [a₀,a₀] at hk;exact wc ho (by rw [show gx (Op.load t x)=true from rfl,Bool.true_and];exact hk.1.1) (fun R hR=>xF hp hc hm ((l6 hk.2).trans hr) hk.1.2 hR) h
theorem pA {l:List Oper} {q:Nat} {L:List (Nat×Bool)} {A:List xB} (ho:tW l q=some ⟨none, .store t x y,ty,pos,after,none⟩) (hp:iV (VE.get E) x=some (.ptr c es k fo path)) (hy:iV (VE.get E) y=some v) (hc:VM.get M c=some b) (hpe:b.pe≤k) (hm:bW b.l k=some m) (hs:zE m path v=some m') (hk:(G0 T t b.es es b.row v && rP m path fo v)=true) (h:aD Pg T N ents G (a₅ l) L (⟨q,n,false,numsO (VE.get E) (Op.store t x y).operands.toList⟩ :: A) K E (Dl.app n (.upd c (setL b.l k m')) M) (n + 1)):aD Pg T N ents G (a₅ l) ((q,false) :: L) A K E M n:=by
 rw [a₀] at hk;exact qK ho rfl (fun R hR=>tZ hp hy hc hpe hm ((l7 hk.2).trans hs) hk.1 hR) h
theorem zF (hx:iV (VE.get E) x=some v) (ht:bB.find T t=some d) (hk:(Jl T N E ⟨some dd, .box t x,ty,pos,after,none⟩ && fits d v)=true) (h:ak Pg T N ents G ops rest K ((dd, .ptr n d.size 0 0 []) :: E) (Dl.app n (.new ⟨t,d.size,false,0,[v]⟩) M) (n + 1)):ak Pg T N ents G ops (⟨some dd, .box t x,ty,pos,after,none⟩ :: rest) K E M n:=by
 rw [a₀] at hk;exact tS hk.1 (fun R hR=>ua hx ht hk.2 hR) h
theorem pB (ht:bB.find T t=some d) (hz:im T 9 t=some v) (hk:(Jl T N E ⟨some dd, .alloc t,ty,pos,after,none⟩ && fits d v)=true) (h:ak Pg T N ents G ops rest K ((dd, .ptr n d.size 0 0 []) :: E) (Dl.app n (.new ⟨t,d.size,false,0,[v]⟩) M) (n + 1)):ak Pg T N ents G ops (⟨some dd, .alloc t,ty,pos,after,none⟩ :: rest) K E M n:=by
 rw [a₀] at hk;exact tS hk.1 (fun R hR=>l8 ht hz hk.2 hR) h
end
section
mutual
def EJ:MV→Bool
 | .int _ _=>true
 | .bool _=>true
 | .str _=>true
 | .nilp=>true
 | .arr .. =>true
 | .sl .. =>true
 | .st l=>pC l
 | _=>false
def pC:List MV→Bool
 | [] =>true
 | m :: l=>bif EJ m then pC l else false
end
mutual
theorem JU {M:FM}: ∀{v:MV} {K:MV×List (Nat×Nat)→Prop},EJ v=true→K (v,[])→(dA M v).runP K
 | .int _ _,_,_,h=>h
 | .bool _,_,_,h=>h
 | .str _,_,_,h=>h
 | .nilp,_,_,h=>h
 | .nilf,_,hc,_=>a₃ hc
 | .nili,_,hc,_=>a₃ hc
 | .arr ..,_,_,h=>h
 | .sl ..,_,_,h=>h
 | .st l,_,hc,h=>ud (v:=l) hc h
 | .nils,_,hc,_=>a₃ hc
 | .ptr ..,_,hc,_=>a₃ hc
 | .gp ..,_,hc,_=>a₃ hc
 | .ep ..,_,hc,_=>a₃ hc
 | .ms ..,_,hc,_=>a₃ hc
 | .fn ..,_,hc,_=>a₃ hc
 | .ifc ..,_,hc,_=>a₃ hc
 | .tup _,_,hc,_=>a₃ hc
 | .undef,_,hc,_=>a₃ hc
theorem ud {M:FM}: ∀{v:List MV} {K:List MV×List (Nat×Nat)→Prop},pC v=true→K (v,[])→(gg M v).runP K
 | [],_,_,h=>h
 | m :: l,_,hc,h=>by
  unfold pC at hc
  cases hm:EJ m with
  | false=>rw [hm] at hc;exact a₃ hc
  | true=>
   rw [hm] at hc
   exact JU hm (ud hc h)
end
theorem BE {T:bB} {M:FM} {ty:TypeId} {p:MV} {K K':MV×Dl→Prop} (hk: ∀x,K x→K' x) (h:(gG T M ty p).runP K):(gG T M ty p).runP K':=by
 unfold gG at h ⊢;split at h
 ·exact h
 ·split at h
  ·split at h
   ·rename_i b _;cases hb:a₆ b.es _ with
    | false=>rw [hb] at h;exact h
    | true=>
     rw [hb] at h;obtain⟨m,hm,r,hr,h⟩:=h;refine⟨m,hm,r,hr,?_⟩;dsimp only at h ⊢;generalize fits _ r=q at *;cases q
     ·exact h
     ·exact hk _ h
   ·exact h
  ·obtain⟨r,hr,h⟩:=h;refine⟨r,hr,?_⟩;dsimp only at h ⊢;generalize fits _ r=q at *;cases q
   ·exact h
   ·exact hk _ h
  ·exact h
theorem eQ {T:bB} {M:VM} {E:VE}: ∀{rs:List ResultVar} {K K':List MV→Prop},(∀v,K v→K' v)→dY T M E rs K→dY T M E rs K'
 | [],_,_,hk,h=>hk _ h
 | .tmp t :: l,K,K',hk,h=>by
  unfold dY at h ⊢
  split at h
  ·exact eQ (fun v hv=>hk _ hv) h
  ·exact h
 | .cell p ty :: l,K,K',hk,h=>by
  unfold dY at h ⊢
  split at h
  ·exact BE (fun x hx=>eQ (fun v hv=>hk _ hv) hx) h
  ·exact h
theorem jJ {T:bB} {rs:List ResultVar} {res:MV} {M:VM} {E:VE} {n:Nat} (vs:List MV) (hR:iy vs=res) (hc:pC vs=true) (h1:dY T M E rs (fun v=>v=vs)):GM T rs (fun r=>r=res) .ret E M n:=
 eQ (fun v hv=>by subst hv;exact ud hc hR) h1
end
end
section
def tab:bB:= [(1, .fn),(2, .int .i64),(3, .int .i64),(4, .bool),(5, .int .u8),(6, .int .u8),(7, .struct [(0,2),(1,3),(2,4),(3,6)] 4),(8, .struct [(0,2),(1,3),(2,4),(3,6)] 4),(9, .str),(10, .str),(11, .str),(12, .int .u64),(13, .struct [(0,9),(1,12)] 2),(14, .struct [(0,9),(1,12)] 2),(15, .ptr),(16, .ptr),(17, .ptr),(18, .struct [(0,17)] 1),(19, .struct [(0,17)] 1),(20, .iface),(21, .int .i32),(22, .slice 91 3),(23, .int .u64),(24, .slice 3 1),(25, .fn),(26, .fn),(27, .fn),(28, .fn),(29, .ptr),(30, .fn),(31, .slice 22 1),(32, .struct [(0,22),(1,23)] 2),(33, .struct [(0,22),(1,23)] 2),(34, .struct [(0,33),(2,33),(4,33),(6,4),(7,23)] 8),(35, .struct [(0,33),(2,33),(4,33),(6,4),(7,23)] 8),(36, .int .i64),(38, .fn),(39, .fn),(40, .fn),(41, .slice 5 1),(42, .slice 41 1),(44, .fn),(45, .fn),(46, .fn),(47, .struct [(0,36),(1,9),(2,23),(3,23),(4,23)] 5),(48, .struct [(0,36),(1,9),(2,23),(3,23),(4,23)] 5),(49, .fn),(50, .fn),(51, .fn),(52, .fn),(53, .fn),(54, .fn),(55, .fn),(56, .slice 48 5),(58, .fn),(59, .fn),(60, .fn),(61, .fn),(62, .fn),(63, .fn),(64, .fn),(65, .struct [(0,3),(1,3),(2,3),(3,3),(4,3),(5,3),(6,4),(7,3),(8,3),(9,23),(10,3),(11,3)] 12),(66, .struct [(0,3),(1,3),(2,3),(3,3),(4,3),(5,3),(6,4),(7,3),(8,3),(9,23),(10,3),(11,3)] 12),(67, .arr 32 5 1),(68, .arr 32 5 1),(69, .struct [(0,3),(1,3),(2,68),(34,68),(66,68)] 98),(70, .struct [(0,3),(1,3),(2,68),(34,68),(66,68)] 98),(71, .slice 81 132),(72, .slice 215 41),(73, .slice 68 32),(74, .struct [(0,66),(12,35),(20,3),(21,3),(22,3),(23,72),(24,73)] 25),(75, .struct [(0,66),(12,35),(20,3),(21,3),(22,3),(23,72),(24,73)] 25),(77, .fn),(78, .struct [(0,3),(1,3),(2,3),(3,68),(35,68),(67,68),(99,68)] 131),(79, .struct [(0,3),(1,3),(2,3),(3,68),(35,68),(67,68),(99,68)] 131),(80, .struct [(0,79),(131,42)] 132),(81, .struct [(0,79),(131,42)] 132),(82, .slice 71 1),(84, .fn),(85, .fn),(86, .fn),(87, .fn),(88, .fn),(89, .slice 24 1),(90, .struct [(0,9),(1,23),(2,23)] 3),(91, .struct [(0,9),(1,23),(2,23)] 3),(93, .fn),(94, .struct [(0,9),(1,23)] 2),(95, .struct [(0,9),(1,23)] 2),(96, .slice 95 2),(97, .struct [(0,9),(1,23),(2,23),(3,23),(4,9),(5,96)] 6),(98, .struct [(0,9),(1,23),(2,23),(3,23),(4,9),(5,96)] 6),(99, .slice 9 1),(100, .slice 23 1),(101, .struct [(0,24),(1,3)] 2),(102, .struct [(0,24),(1,3)] 2),(104, .fn),(105, .fn),(106, .fn),(107, .fn),(109, .fn),(110, .fn),(112, .fn),(114, .fn),(115, .fn),(116, .fn),(117, .fn),(118, .slice 73 1),(119, .struct [(0,75),(25,70),(123,71),(124,118),(125,4),(126,81),(258,41)] 259),(120, .struct [(0,75),(25,70),(123,71),(124,118),(125,4),(126,81),(258,41)] 259),(121, .slice 160 5),(123, .fn),(124, .fn),(125, .fn),(126, .fn),(127, .fn),(128, .fn),(129, .fn),(130, .fn),(131, .fn),(132, .other),(133, .fn),(134, .struct [] 0),(137, .fn),(138, .fn),(139, .fn),(140, .fn),(141, .fn),(142, .fn),(143, .fn),(144, .fn),(145, .fn),(147, .fn),(148, .fn),(149, .fn),(150, .fn),(151, .fn),(152, .fn),(153, .fn),(154, .fn),(155, .fn),(156, .fn),(158, .fn),(159, .struct [(0,3),(1,3),(2,3),(3,3),(4,41)] 5),(160, .struct [(0,3),(1,3),(2,3),(3,3),(4,41)] 5),(161, .fn),(162, .struct [(0,36),(1,68),(33,23),(34,73),(35,73),(36,73),(37,73),(38,73),(39,42),(40,3),(41,68)] 73),(163, .struct [(0,36),(1,68),(33,23),(34,73),(35,73),(36,73),(37,73),(38,73),(39,42),(40,3),(41,68)] 73),(165, .fn),(166, .struct [(0,23),(1,4)] 2),(167, .struct [(0,23),(1,4)] 2),(168, .struct [(0,9),(1,167),(3,167),(5,167)] 7),(169, .struct [(0,9),(1,167),(3,167),(5,167)] 7),(170, .arr 12 169 7),(171, .fn),(173, .fn),(174, .fn),(175, .fn),(176, .fn),(177, .fn),(178, .int .u32),(179, .arr 8 178 1),(180, .fn),(181, .slice 183 4),(182, .struct [(0,3),(1,3),(2,23),(3,41)] 4),(183, .struct [(0,3),(1,3),(2,23),(3,41)] 4),(184, .fn),(185, .fn),(186, .fn),(187, .fn),(188, .fn),(189, .fn),(190, .int .u64),(191, .fn),(193, .fn),(194, .fn),(195, .fn),(197, .fn),(198, .fn),(199, .fn),(200, .fn),(201, .fn),(203, .fn),(205, .fn),(206, .fn),(207, .ptr),(208, .fn),(209, .fn),(210, .fn),(211, .fn),(213, .fn),(214, .struct [(0,68),(32,41),(33,9),(34,23),(35,23),(36,23),(37,3),(38,3),(39,3),(40,24)] 41),(215, .struct [(0,68),(32,41),(33,9),(34,23),(35,23),(36,23),(37,3),(38,3),(39,3),(40,24)] 41),(216, .fn),(218, .fn),(219, .fn),(220, .fn),(221, .fn),(223, .fn),(224, .fn),(225, .fn),(226, .fn),(227, .ptr),(228, .arr 12 227 1),(229, .fn),(230, .ptr),(231, .fn),(232, .fn),(233, .arr 64 178 1),(234, .fn),(235, .fn),(236, .fn),(237, .fn),(238, .int .i64),(240, .fn),(241, .fn),(242, .fn),(243, .fn),(244, .fn),(245, .fn),(247, .fn),(248, .fn),(249, .struct [(0,41)] 1),(250, .struct [(0,41)] 1),(251, .fn),(252, .fn),(253, .fn),(254, .fn),(256, .fn),(257, .fn),(258, .fn),(259, .fn),(261, .fn),(262, .arr 8 178 1),(263, .fn),(264, .struct [(0,262),(8,41),(9,3)] 10),(265, .struct [(0,262),(8,41),(9,3)] 10),(266, .fn),(267, .fn),(268, .fn),(269, .fn),(270, .arr 3 3 1),(271, .fn),(272, .arr 4 68 32),(273, .fn),(274, .fn),(275, .fn),(276, .fn),(277, .fn),(278, .fn),(280, .fn),(282, .fn),(284, .fn),(285, .fn),(286, .fn),(287, .fn),(288, .fn),(289, .fn),(290, .fn),(291, .fn),(293, .fn),(294, .fn),(295, .fn),(296, .int .u64),(297, .fn),(298, .fn),(299, .fn),(300, .fn),(302, .fn),(303, .ptr),(306, .fn),(307, .iface),(308, .iface),(309, .fn),(310, .ptr),(311, .fn),(312, .fn),(313, .fn),(314, .fn),(315, .fn),(316, .fn),(317, .fn),(318, .fn),(319, .fn),(320, .struct [(0,3),(1,23),(2,4)] 3),(321, .struct [(0,3),(1,23),(2,4)] 3),(323, .fn),(324, .fn),(326, .fn),(327, .fn),(329, .fn),(330, .fn),(331, .ptr),(332, .fn),(333, .fn),(334, .fn),(335, .arr 256 5 1),(336, .struct [(0,5),(1,5)] 2),(337, .struct [(0,5),(1,5)] 2),(338, .arr 16 337 2),(339, .ptr),(340, .fn),(341, .struct [(0,17),(1,17),(2,17),(3,9)] 4),(342, .struct [(0,17),(1,17),(2,17),(3,9)] 4),(346, .fn),(347, .int .u8),(348, .int .u8),(349, .fn),(350, .ptr),(351, .int .i32),(352, .int .i32),(353, .struct [(0,12),(1,12),(2,178),(3,347),(4,5),(5,5),(6,348),(7,349),(8,350),(9,351),(10,352)] 11),(354, .struct [(0,12),(1,12),(2,178),(3,347),(4,5),(5,5),(6,348),(7,349),(8,350),(9,351),(10,352)] 11),(355, .struct [(0,9)] 1),(356, .struct [(0,9)] 1),(357, .ptr)]
def ents:List FuncId:= [2,3,4,5,6,7,8,9,10,11,12,13,14,15,16,17,18,19,20,21,22,23,24,25,26,27,28,29,30,31,32,33,34,35,36,37,38,39,40,41,42,43,44,45,46,47,48,49,50,51,52,53,54,55,56,57,58,59,60,61,62,63,64,65,66,67,68,69,70,71,72,73,74,75,76,77,78,79,80,81,82,83,84,85,86,87,88,89,90,91,92,93,94,95,96,97,98,99,100,101,102,103,104,105,106,107,108,109,110,111,112,113,114,115,116,117,118,119,120,121,122,123,124,125,126,127,128,129,130,131,132,133,134,135,136,137,138,139,140,141,142,143,144,145,146,147,148,149,150,151,152,153,154,155,156,157,158,159,160,161,162,163,164,165,166,167,168,169,170,171,172,173,174,175,176,177,178,179,180,181,182,183,184,185,186,187,188,189,190,191,192,193,194,195,196,197,198,199,201,202,203,204,205,206,207,208,209,210,211,212,213,214,215,216,217,218,219,220,221,222,223,224,225,226,227,228,229,230,231,232,233,234,235,236,237,238,239,241,242,243,244,245,246,247,248,249,250,251,252,253,254,255,256,257,258,259,260,261,262,263,264,265,266,267,268,269,270,271,272,273,274,275,276,299]
def L6 (P:Program) (f:FuncId):Bool:=match P.funcs[f]? with | some fn=>fn.body.isSome && !(fn.name == "runtime.NumGoroutine") | none=>false
theorem ue {P:Program} {f:FuncId} (h:L6 P f=true) (args:Array Value) (w:World):(callFunc f args).run P w= .ok (.enter f args) w:=by
 unfold L6 at h;split at h
 ·rename_i fn hf;simp only [a₀,b₃] at h;obtain⟨h1,h2⟩:=h;obtain⟨c,hc⟩:=Option.isSome_iff_exists.1 h1;exact enters_of hf h2 hc args w
 ·cases h
theorem seat:Seat Tryz.prog tab ents:=⟨⟨by kernel_rfl⟩,fun f hf=>ue (b₅.1 (show ents.all (L6 Tryz.prog)=true by kernel_rfl) f hf),by kernel_rfl⟩
end
section
theorem sv {α:Type} {a b:α} (h:a=b):some a=some b:=congrArg some h
theorem gI.of {n0:Nat} {E':VE} {M':VM} {n':Nat} {E:VE} {M:VM} (σ bs:List (Nat×Nat)) (h1:mE (da n0 σ) (kI M bs) E' E) (h2:mM (da n0 σ) (kI M bs) M' (VM.bump M bs)) (h3:r9 n0 n' σ=true) (h4:Bd M bs) (h5:M'.all (fun x=>a₄ x.1 n')=true):gI n0 E' M' n' E M:=⟨σ,bs,h3,h4,h5,h1,h2⟩
theorem JV (x n:Int) (hn:0 < n):(if x.tmod n < 0 then x.tmod n + n else x.tmod n)=x % n:=by
 rw [Int.tmod_eq_emod];have h1:=Int.emod_nonneg x (show n≠0 by omega);have h2:=Int.emod_lt_of_pos x hn;have e:(n.natAbs:Int)=n:=om;split <;> split at * <;> omega
theorem cO {l:List MV} {n k:Nat} {x:MV} (hk:k < n) (hx:l[k]? =some x):bF l n (k:Int)=some x:=by
 unfold bF;rw [if_pos om];simpa using hx
theorem cE {n k:Nat} (hk:k < n):A4 n (k:Int)=some k:=by
 unfold A4;rw [if_pos om];simp
theorem bc {α:Type} (f:α→MV) (l:List α):cutL (l.map f) 0 (0 + l.length)=l.map f:=by simp [cutL,List.take_of_length_le]
theorem ai {n m k:Nat} (hb:d₃ k 4096=true) (h:n + m≤2000000000):(n + m) * k≤140737488355328∧n + m≤maxLen:=by
 have hb:=Nat.le_of_ble_eq_true hb;have:=Nat.mul_le_mul h hb;have e:maxLen=9223372036854775807:=rfl;omega
theorem pD {m k:Nat} (hb:d₃ k 4096=true) (h:m≤2000000000):m * k≤140737488355328∧m≤maxLen:=by
 have:=ai (n:=0) (m:=m) hb om;rw [Nat.zero_add] at this;exact this
def iQ (l:List Int):MV:= .sl l.length (l.map (.int .i64))
theorem zG {l:List Int} {k:Nat} (hk:k < l.length):bF (l.map (MV.int .i64)) l.length (k:Int)=some (.int .i64 l[k]):=cO hk (by simp [hk])
end
section
variable {R:MV×Dl→Prop}
theorem NJ {x:Int} (h:R (.bool true, .none)):R (.bool (x == x), .none):=by rw [beq_self_eq_true];exact h
theorem NK {x:Int} (h:R (.bool false, .none)):R (.bool (x !=x), .none):=by rw [bne_self_eq_false];exact h
theorem NL {x:List UInt8} (h:R (.bool true, .none)):R (.bool (x == x), .none):=by rw [beq_self_eq_true];exact h
theorem NM {x:List UInt8} (h:R (.bool false, .none)):R (.bool (!(x == x)), .none):=by rw [beq_self_eq_true];exact h
theorem fO: ∀l:List UInt8,kM (u8s l)=some l
 | [] =>rfl
 | a :: l=>by
  show(if 0≤(a.toNat:Int)∧(a.toNat:Int) < 256 then(match kM (u8s l) with | some r=>some (UInt8.ofNat (Int.toNat (a.toNat:Int)) :: r) | none=>none) else none)=_
  have:=a.toNat_lt
  rw [if_pos om,fO l]
  simp
end
section
theorem w32 (n:Int):IntKind.u32.wrap n=n % 4294967296:=by
 simp only [IntKind.wrap,IntKind.bits,IntKind.signed];simp
theorem w8 (n:Int):IntKind.u8.wrap n=n % 256:=by
 simp only [IntKind.wrap,IntKind.bits,IntKind.signed];simp
theorem wu64 (n:Int):IntKind.u64.wrap n=n % 18446744073709551616:=by
 simp only [IntKind.wrap,IntKind.bits,IntKind.signed];simp
abbrev dZ (x:UInt32):MV:= .int .u32 x.toNat
abbrev BF (x:UInt8):MV:= .int .u8 x.toNat
theorem eU (n m:Nat) (h:m < 2 ^ n):(BitVec.ofInt n (m:Int)).toNat=m:=by
 rw [BitVec.toNat_ofInt];have e:((2 ^ n:Nat):Int)=(2:Int) ^ n:=sm;have:((m:Int) % ((2 ^ n:Nat):Int)).toNat=m:=by
  rw [← d₄,Int.toNat_natCast,a₉ h]
 exact this
theorem JW (x:UInt32):x.toNat < 4294967296:=x.toNat_lt
theorem t8 (x:UInt8):x.toNat < 256:=x.toNat_lt
theorem zH (x y:UInt32):IntKind.u32.wrap ((x.toNat:Int) + (y.toNat:Int))=((x + y).toNat:Int):=by
 rw [w32,UInt32.toNat_add];omega
theorem zI (x y:UInt32):IntKind.u32.wrap ((BitVec.ofInt IntKind.u32.bits (x.toNat:Int) &&& BitVec.ofInt IntKind.u32.bits (y.toNat:Int)).toNat:Int)=((x &&& y).toNat:Int):=by
 have h:=JW (x &&& y);rw [BitVec.toNat_and,eU _ _ (JW x),eU _ _ (JW y),← UInt32.toNat_and,w32];omega
theorem Ha (x y:UInt32):IntKind.u32.wrap ((BitVec.ofInt IntKind.u32.bits (x.toNat:Int) ||| BitVec.ofInt IntKind.u32.bits (y.toNat:Int)).toNat:Int)=((x ||| y).toNat:Int):=by
 have h:=JW (x ||| y);rw [BitVec.toNat_or,eU _ _ (JW x),eU _ _ (JW y),← UInt32.toNat_or,w32];omega
theorem we (x y:UInt32):IntKind.u32.wrap ((BitVec.ofInt IntKind.u32.bits (x.toNat:Int) ^^^ BitVec.ofInt IntKind.u32.bits (y.toNat:Int)).toNat:Int)=((x ^^^ y).toNat:Int):=by
 have h:=JW (x ^^^ y);rw [BitVec.toNat_xor,eU _ _ (JW x),eU _ _ (JW y),← UInt32.toNat_xor,w32];omega
theorem zJ (y:UInt32):IntKind.u32.wrap ((BitVec.ofInt IntKind.u32.bits (if IntKind.u32.signed then -1 else IntKind.u32.max) ^^^ BitVec.ofInt IntKind.u32.bits (y.toNat:Int)).toNat:Int)=((~~~y).toNat:Int):=by
 have e:(if IntKind.u32.signed then(-1:Int) else IntKind.u32.max)=(((-1:UInt32)).toNat:Int):=by rfl
 rw [e,we];have h:(-1:UInt32) ^^^ y= ~~~y:=by
  apply UInt32.toBitVec_inj.1;rw [UInt32.toBitVec_xor,UInt32.toBitVec_not];exact BitVec.allOnes_xor
 rw [h]
theorem Hb (x:UInt32) (k:Nat) (hk:k < 32):IntKind.u32.wrap ((x.toNat:Int) * 2 ^ (min (k:Int).toNat IntKind.u32.bits))=((x <<< UInt32.ofNat k).toNat:Int):=by
 have e:min (k:Int).toNat IntKind.u32.bits=k:=by simp [IntKind.bits];omega
 rw [e,w32,UInt32.toNat_shiftLeft,UInt32.toNat_ofNat',a₉ (show k < 2 ^ 32 by omega),a₉ hk,f₄];rw [show (x.toNat:Int) * 2 ^ k=((x.toNat * 2 ^ k:Nat):Int) by rw [g₁,d₈];rfl];exact(d₄ (x.toNat * 2 ^ k) 4294967296).symm
theorem ug (x:UInt32) (k:Nat) (hk:k < 32):((x.toNat:Int).fdiv (2 ^ (min (k:Int).toNat IntKind.u32.bits)))=((x >>> UInt32.ofNat k).toNat:Int):=by
 have e:min (k:Int).toNat IntKind.u32.bits=k:=by simp [IntKind.bits];omega
 rw [e,UInt32.toNat_shiftRight,UInt32.toNat_ofNat',a₉ (show k < 2 ^ 32 by omega),a₉ hk,Nat.shiftRight_eq_div_pow,d₂ _ (Int.le_of_lt (Int.pow_pos om))];rw [f₅,d₈];rfl
theorem Hc (x:UInt32) (j:Int) (h0:0≤j) (h1:j < 32):IntKind.u32.wrap ((x.toNat:Int) * 2 ^ (min j.toNat IntKind.u32.bits))=((x <<< UInt32.ofNat j.toNat).toNat:Int):=by
 have:=Hb x j.toNat om
 rwa [e₅ h0] at this
theorem Hd (x:UInt32) (j:Int) (h0:0≤j) (h1:j < 32):((x.toNat:Int).fdiv (2 ^ (min j.toNat IntKind.u32.bits)))=((x >>> UInt32.ofNat j.toNat).toNat:Int):=by
 have:=ug x j.toNat om
 rwa [e₅ h0] at this
theorem pE (x:UInt8):IntKind.u32.wrap (x.toNat:Int)=((x.toUInt32).toNat:Int):=by
 have:=t8 x;rw [w32,UInt8.toNat_toUInt32];omega
theorem iY (x:UInt32):IntKind.u8.wrap (x.toNat:Int)=((x.toUInt8).toNat:Int):=by
 rw [w8,UInt32.toNat_toUInt8];omega
end
section
structure FW (q:Prop):Prop where
 out:q
structure aU {α:Type} (a b:α):Prop where
 out:a=b
structure aj {α:Type} (a:Option α) (b:α):Prop where
 out':a=some b
theorem aj.out {α:Type} {a:Option α} {b:α} (h:aj a b):a=some b:=h.out'
structure bE (p:Prop):Prop where
 out:p
theorem pf {p:Prop} (h:p:=by first | rfl | omega | (simp [u8s,cutL,setL,repM,List.replicate_succ',List.range_succ];done) | (simp [u8s,cutL,setL,repM];omega)):p:=h
theorem rv {p:Prop} (h:p:=by (first | exact⟨rfl,rfl⟩ | exact .inr ⟨rfl,rfl⟩ | exact .inr ⟨rfl,rfl,rfl,Nat.le_refl _,rfl⟩ | exact .inl rfl | exact .inl ⟨rfl,rfl⟩ | exact⟨_,rfl,rfl⟩ | exact .inr ⟨_,rfl,rfl⟩ | exact .inl ⟨rfl,rfl,rfl⟩ | exact⟨congrArg (MV.int _) (by omega),rfl⟩ | exact .inr ⟨rfl,rfl,rfl,Nat.le_of_eq (Nat.zero_add _),bc _ _⟩ | (refine .inr ⟨_,rfl,?_⟩;focus (first | exact⟨rfl,rfl⟩ | exact .inr ⟨rfl,rfl⟩ | exact .inr ⟨rfl,rfl,rfl,Nat.le_refl _,rfl⟩ | exact .inl rfl | exact .inl ⟨rfl,rfl⟩ | exact⟨_,rfl,rfl⟩ | exact .inr ⟨_,rfl,rfl⟩ | exact .inl ⟨rfl,rfl,rfl⟩ | exact⟨congrArg (MV.int _) (by omega),rfl⟩ | exact .inr ⟨rfl,rfl,rfl,Nat.le_of_eq (Nat.zero_add _),bc _ _⟩ | (refine .inr ⟨_,rfl,?_⟩;focus (first | exact⟨rfl,rfl⟩ | exact .inr ⟨rfl,rfl⟩ | exact .inr ⟨rfl,rfl,rfl,Nat.le_refl _,rfl⟩ | exact .inl rfl | exact .inl ⟨rfl,rfl⟩ | exact⟨_,rfl,rfl⟩ | exact .inr ⟨_,rfl,rfl⟩ | exact .inl ⟨rfl,rfl,rfl⟩ | exact⟨congrArg (MV.int _) (by omega),rfl⟩ | exact .inr ⟨rfl,rfl,rfl,Nat.le_of_eq (Nat.zero_add _),bc _ _⟩ | (refine .inr ⟨_,rfl,?_⟩;focus (first | exact⟨rfl,rfl⟩ | exact .inr ⟨rfl,rfl⟩ | exact .inr ⟨rfl,rfl,rfl,Nat.le_refl _,rfl⟩ | exact .inl rfl | exact .inl ⟨rfl,rfl⟩ | exact⟨_,rfl,rfl⟩ | exact .inr ⟨_,rfl,rfl⟩ | exact .inl ⟨rfl,rfl,rfl⟩ | exact⟨congrArg (MV.int _) (by omega),rfl⟩ | exact .inr ⟨rfl,rfl,rfl,Nat.le_of_eq (Nat.zero_add _),bc _ _⟩);done) | (refine .inr ⟨_,rfl,?_⟩;focus (repeat(first | exact trivial | (refine And.intro ?_ ?_;focus (first | exact⟨rfl,rfl⟩ | exact .inr ⟨rfl,rfl⟩ | exact .inr ⟨rfl,rfl,rfl,Nat.le_refl _,rfl⟩ | exact .inl rfl | exact .inl ⟨rfl,rfl⟩ | exact⟨_,rfl,rfl⟩ | exact .inr ⟨_,rfl,rfl⟩ | exact .inl ⟨rfl,rfl,rfl⟩ | exact⟨congrArg (MV.int _) (by omega),rfl⟩ | exact .inr ⟨rfl,rfl,rfl,Nat.le_of_eq (Nat.zero_add _),bc _ _⟩))));done));done) | (refine .inr ⟨_,rfl,?_⟩;focus (repeat(first | exact trivial | (refine And.intro ?_ ?_;focus (first | exact⟨rfl,rfl⟩ | exact .inr ⟨rfl,rfl⟩ | exact .inr ⟨rfl,rfl,rfl,Nat.le_refl _,rfl⟩ | exact .inl rfl | exact .inl ⟨rfl,rfl⟩ | exact⟨_,rfl,rfl⟩ | exact .inr ⟨_,rfl,rfl⟩ | exact .inl ⟨rfl,rfl,rfl⟩ | exact⟨congrArg (MV.int _) (by omega),rfl⟩ | exact .inr ⟨rfl,rfl,rfl,Nat.le_of_eq (Nat.zero_add _),bc _ _⟩ | (refine .inr ⟨_,rfl,?_⟩;focus (first | exact⟨rfl,rfl⟩ | exact .inr ⟨rfl,rfl⟩ | exact .inr ⟨rfl,rfl,rfl,Nat.le_refl _,rfl⟩ | exact .inl rfl | exact .inl ⟨rfl,rfl⟩ | exact⟨_,rfl,rfl⟩ | exact .inr ⟨_,rfl,rfl⟩ | exact .inl ⟨rfl,rfl,rfl⟩ | exact⟨congrArg (MV.int _) (by omega),rfl⟩ | exact .inr ⟨rfl,rfl,rfl,Nat.le_of_eq (Nat.zero_add _),bc _ _⟩);done) | (refine .inr ⟨_,rfl,?_⟩;focus (repeat(first | exact trivial | (refine And.intro ?_ ?_;focus (first | exact⟨rfl,rfl⟩ | exact .inr ⟨rfl,rfl⟩ | exact .inr ⟨rfl,rfl,rfl,Nat.le_refl _,rfl⟩ | exact .inl rfl | exact .inl ⟨rfl,rfl⟩ | exact⟨_,rfl,rfl⟩ | exact .inr ⟨_,rfl,rfl⟩ | exact .inl ⟨rfl,rfl,rfl⟩ | exact⟨congrArg (MV.int _) (by omega),rfl⟩ | exact .inr ⟨rfl,rfl,rfl,Nat.le_of_eq (Nat.zero_add _),bc _ _⟩))));done)))));done));done) | (refine .inr ⟨_,rfl,?_⟩;focus (repeat(first | exact trivial | (refine And.intro ?_ ?_;focus (first | exact⟨rfl,rfl⟩ | exact .inr ⟨rfl,rfl⟩ | exact .inr ⟨rfl,rfl,rfl,Nat.le_refl _,rfl⟩ | exact .inl rfl | exact .inl ⟨rfl,rfl⟩ | exact⟨_,rfl,rfl⟩ | exact .inr ⟨_,rfl,rfl⟩ | exact .inl ⟨rfl,rfl,rfl⟩ | exact⟨congrArg (MV.int _) (by omega),rfl⟩ | exact .inr ⟨rfl,rfl,rfl,Nat.le_of_eq (Nat.zero_add _),bc _ _⟩ | (refine .inr ⟨_,rfl,?_⟩;focus (first | exact⟨rfl,rfl⟩ | exact .inr ⟨rfl,rfl⟩ | exact .inr ⟨rfl,rfl,rfl,Nat.le_refl _,rfl⟩ | exact .inl rfl | exact .inl ⟨rfl,rfl⟩ | exact⟨_,rfl,rfl⟩ | exact .inr ⟨_,rfl,rfl⟩ | exact .inl ⟨rfl,rfl,rfl⟩ | exact⟨congrArg (MV.int _) (by omega),rfl⟩ | exact .inr ⟨rfl,rfl,rfl,Nat.le_of_eq (Nat.zero_add _),bc _ _⟩ | (refine .inr ⟨_,rfl,?_⟩;focus (first | exact⟨rfl,rfl⟩ | exact .inr ⟨rfl,rfl⟩ | exact .inr ⟨rfl,rfl,rfl,Nat.le_refl _,rfl⟩ | exact .inl rfl | exact .inl ⟨rfl,rfl⟩ | exact⟨_,rfl,rfl⟩ | exact .inr ⟨_,rfl,rfl⟩ | exact .inl ⟨rfl,rfl,rfl⟩ | exact⟨congrArg (MV.int _) (by omega),rfl⟩ | exact .inr ⟨rfl,rfl,rfl,Nat.le_of_eq (Nat.zero_add _),bc _ _⟩);done) | (refine .inr ⟨_,rfl,?_⟩;focus (repeat(first | exact trivial | (refine And.intro ?_ ?_;focus (first | exact⟨rfl,rfl⟩ | exact .inr ⟨rfl,rfl⟩ | exact .inr ⟨rfl,rfl,rfl,Nat.le_refl _,rfl⟩ | exact .inl rfl | exact .inl ⟨rfl,rfl⟩ | exact⟨_,rfl,rfl⟩ | exact .inr ⟨_,rfl,rfl⟩ | exact .inl ⟨rfl,rfl,rfl⟩ | exact⟨congrArg (MV.int _) (by omega),rfl⟩ | exact .inr ⟨rfl,rfl,rfl,Nat.le_of_eq (Nat.zero_add _),bc _ _⟩))));done));done) | (refine .inr ⟨_,rfl,?_⟩;focus (repeat(first | exact trivial | (refine And.intro ?_ ?_;focus (first | exact⟨rfl,rfl⟩ | exact .inr ⟨rfl,rfl⟩ | exact .inr ⟨rfl,rfl,rfl,Nat.le_refl _,rfl⟩ | exact .inl rfl | exact .inl ⟨rfl,rfl⟩ | exact⟨_,rfl,rfl⟩ | exact .inr ⟨_,rfl,rfl⟩ | exact .inl ⟨rfl,rfl,rfl⟩ | exact⟨congrArg (MV.int _) (by omega),rfl⟩ | exact .inr ⟨rfl,rfl,rfl,Nat.le_of_eq (Nat.zero_add _),bc _ _⟩ | (refine .inr ⟨_,rfl,?_⟩;focus (first | exact⟨rfl,rfl⟩ | exact .inr ⟨rfl,rfl⟩ | exact .inr ⟨rfl,rfl,rfl,Nat.le_refl _,rfl⟩ | exact .inl rfl | exact .inl ⟨rfl,rfl⟩ | exact⟨_,rfl,rfl⟩ | exact .inr ⟨_,rfl,rfl⟩ | exact .inl ⟨rfl,rfl,rfl⟩ | exact⟨congrArg (MV.int _) (by omega),rfl⟩ | exact .inr ⟨rfl,rfl,rfl,Nat.le_of_eq (Nat.zero_add _),bc _ _⟩);done) | (refine .inr ⟨_,rfl,?_⟩;focus (repeat(first | exact trivial | (refine And.intro ?_ ?_;focus (first | exact⟨rfl,rfl⟩ | exact .inr ⟨rfl,rfl⟩ | exact .inr ⟨rfl,rfl,rfl,Nat.le_refl _,rfl⟩ | exact .inl rfl | exact .inl ⟨rfl,rfl⟩ | exact⟨_,rfl,rfl⟩ | exact .inr ⟨_,rfl,rfl⟩ | exact .inl ⟨rfl,rfl,rfl⟩ | exact⟨congrArg (MV.int _) (by omega),rfl⟩ | exact .inr ⟨rfl,rfl,rfl,Nat.le_of_eq (Nat.zero_add _),bc _ _⟩))));done)))));done)))));done))):p:=h
theorem lm {p:Prop} (h:p:=by (repeat(first | exact trivial | refine And.intro rv ?_))):p:=h
theorem mm {p:Prop} (h:p:=by (repeat(first | exact trivial | refine⟨Nat.le_refl _,?_⟩ | refine⟨⟨_,rfl,rv⟩,?_⟩ | refine⟨.inl ⟨rfl,rfl,rfl,rfl⟩,?_⟩ | refine⟨.inr ⟨_,_,rfl,rfl,rfl,rfl, .inl rfl, .inl rfl, .inl ⟨rfl,rfl⟩⟩,?_⟩ | refine⟨.inr ⟨_,_,rfl,rfl,rfl,rfl, .inl rfl, .inl rfl, .inl ⟨(by simp [u8s]),rfl⟩⟩,?_⟩ | refine⟨.inr ⟨_,_,rfl,rfl,rfl,rfl, .inl rfl, .inr ⟨(by first | exact Nat.max_le.2 ⟨Nat.zero_le _,Nat.le_refl _⟩ | exact Nat.max_le.2 ⟨Nat.le_refl _,Nat.le_refl _⟩),(by simp [u8s])⟩, .inl ⟨rfl,rfl⟩⟩,?_⟩ | refine⟨.inr ⟨_,_,rfl,rfl,rfl,rfl, .inl rfl, .inl rfl, .inr ⟨rv,trivial⟩⟩,?_⟩ | refine⟨(show _≤_ by simp [u8s]),?_⟩ | refine⟨.inr ⟨_,_,rfl,rfl,rfl,rfl, .inr (.inl ⟨rfl,rfl,rfl,bE.out (by assumption)⟩), .inl rfl, .inl ⟨rfl,rfl⟩⟩,?_⟩))):p:=h
theorem jV {p:Prop} (h:p:=by intro R hR;first | ((with_reducible apply l9);(case hp=>exact rfl);(case hc=>exact rfl);(case hm=>exact rfl);(case hr=>exact rfl);(case hk=>kernel_rfl);(case hR=>exact hR)) | ((with_reducible apply mZ);(case hp=>exact rfl);(case hy=>exact rfl);(case hc=>exact rfl);(case hpe=>exact Nat.zero_le _);(case hm=>exact rfl);(case hs=>exact rfl);(case hk=>kernel_rfl);(case hR=>exact hR)) | ((with_reducible apply ua);(case hx=>exact rfl);(case ht=>exact rfl);(case hk=>kernel_rfl);(case hR=>exact hR)) | ((with_reducible apply l8);(case ht=>exact rfl);(case hz=>exact rfl);(case hk=>kernel_rfl);(case hR=>exact hR)) | (repeat(first | exact hR | ((try conv=>whnf);first | exact hR | (with_reducible refine⟨_,sv (aU.out (by assumption)),?_⟩) | (with_reducible refine And.intro (bE.out (by assumption)) ?_) | (with_reducible refine And.intro (Nat.zero_le _) ?_) | (with_reducible refine And.intro rfl ?_) | (with_reducible refine⟨_,cE (by omega),?_⟩) | (with_reducible refine⟨fun _=>?_,fun h=>Bool.noConfusion h⟩) | (with_reducible refine⟨fun h=>Bool.noConfusion h,fun _=>?_⟩) | (with_reducible refine⟨_,sv (eo _ (by omega) (by omega)),?_⟩) | (with_reducible refine⟨_,sv (bM _ (by omega) (by omega)),?_⟩) | (with_reducible refine⟨_,sv (gF _ (by omega) (by omega)),?_⟩) | (refine⟨_,rfl,?_⟩) | (refine⟨_,aj.out (by assumption),?_⟩) | (refine And.intro (by omega) ?_))));first | done | fail):p:=h
theorem CP {p:Prop} (h:p:=by intro R hR;first | ((with_reducible apply l9);(case hp=>exact rfl);(case hc=>exact rfl);(case hm=>exact rfl);(case hr=>exact rfl);(case hk=>kernel_rfl);(case hR=>exact hR)) | ((with_reducible apply mZ);(case hp=>exact rfl);(case hy=>exact rfl);(case hc=>exact rfl);(case hpe=>exact Nat.zero_le _);(case hm=>exact rfl);(case hs=>exact rfl);(case hk=>kernel_rfl);(case hR=>exact hR)) | ((with_reducible apply ua);(case hx=>exact rfl);(case ht=>exact rfl);(case hk=>kernel_rfl);(case hR=>exact hR)) | ((with_reducible apply l8);(case ht=>exact rfl);(case hz=>exact rfl);(case hk=>kernel_rfl);(case hR=>exact hR)) | (repeat(first | exact hR | ((try conv=>whnf);first | exact hR | (with_reducible refine⟨_,sv (aU.out (by assumption)),?_⟩) | (with_reducible refine And.intro (bE.out (by assumption)) ?_) | (with_reducible refine And.intro (Nat.zero_le _) ?_) | (with_reducible refine And.intro rfl ?_) | (with_reducible refine⟨_,sv (zH _ _),?_⟩) | (with_reducible refine⟨_,sv (we _ _),?_⟩) | (with_reducible refine⟨_,sv (zI _ _),?_⟩) | (with_reducible refine⟨_,sv (Ha _ _),?_⟩) | (with_reducible refine⟨_,sv (zJ _),?_⟩) | (with_reducible refine⟨_,sv (Hc _ _ (by omega) (by omega)),?_⟩) | (with_reducible refine⟨_,sv (Hd _ _ (by omega) (by omega)),?_⟩) | (with_reducible refine⟨_,sv (pE _),?_⟩) | (with_reducible refine⟨_,sv (iY _),?_⟩) | (with_reducible refine⟨fun _=>?_,fun h=>Bool.noConfusion h⟩) | (with_reducible refine⟨fun h=>Bool.noConfusion h,fun _=>?_⟩) | (with_reducible refine⟨_,sv (eo _ (by omega) (by omega)),?_⟩) | (with_reducible refine⟨_,sv (bM _ (by omega) (by omega)),?_⟩) | (with_reducible refine⟨_,sv (gF _ (by omega) (by omega)),?_⟩) | (refine⟨_,rfl,?_⟩) | (refine⟨_,aj.out (by assumption),?_⟩) | (refine And.intro (by omega) ?_))));first | done | fail):p:=h
theorem CQ {p:Prop} (h:p:=by intro R hR;first | ((with_reducible apply l9);(case hp=>exact rfl);(case hc=>exact rfl);(case hm=>exact rfl);(case hr=>exact rfl);(case hk=>kernel_rfl);(case hR=>exact hR)) | ((with_reducible apply mZ);(case hp=>exact rfl);(case hy=>exact rfl);(case hc=>exact rfl);(case hpe=>exact Nat.zero_le _);(case hm=>exact rfl);(case hs=>exact rfl);(case hk=>kernel_rfl);(case hR=>exact hR)) | ((with_reducible apply ua);(case hx=>exact rfl);(case ht=>exact rfl);(case hk=>kernel_rfl);(case hR=>exact hR)) | ((with_reducible apply l8);(case ht=>exact rfl);(case hz=>exact rfl);(case hk=>kernel_rfl);(case hR=>exact hR)) | (repeat((try conv=>whnf);first | (with_reducible exact NJ hR) | (with_reducible exact NK hR) | (with_reducible exact NL hR) | (with_reducible exact NM hR) | exact hR | (with_reducible refine⟨_,sv (aU.out (by assumption)),?_⟩) | (with_reducible refine And.intro (bE.out (by assumption)) ?_) | (with_reducible refine And.intro (Nat.zero_le _) ?_) | (with_reducible refine And.intro rfl ?_) | (with_reducible refine⟨_,cE (by omega),?_⟩) | (with_reducible refine⟨fun _=>?_,fun h=>Bool.noConfusion h⟩) | (with_reducible refine⟨fun h=>Bool.noConfusion h,fun _=>?_⟩) | (with_reducible refine⟨_,sv (eo _ (by omega) (by omega)),?_⟩) | (with_reducible refine⟨_,sv (bM _ (by omega) (by omega)),?_⟩) | (with_reducible refine⟨_,sv (gF _ (by omega) (by omega)),?_⟩) | (refine⟨_,rfl,?_⟩) | (refine⟨_,aj.out (by assumption),?_⟩) | (refine And.intro (by omega) ?_)));first | done | fail):p:=h
theorem au {p q:Prop} (h:q) (s:FW q→p:=by intro hq;(repeat((try conv=>whnf);first | (with_reducible refine Rt.go ?_) | (with_reducible refine Rs.go ?_) | (with_reducible refine tR ?_) | (with_reducible refine And.intro (Nat.zero_le _) ?_) | (with_reducible refine And.intro rfl ?_) | (with_reducible refine⟨_,cE (by omega),?_⟩) | (with_reducible refine⟨fun _=>?_,fun h=>Bool.noConfusion h⟩) | (with_reducible refine⟨fun h=>Bool.noConfusion h,fun _=>?_⟩) | (with_reducible refine⟨_,sv (eo _ (by omega) (by omega)),?_⟩) | (with_reducible refine⟨_,sv (bM _ (by omega) (by omega)),?_⟩) | (with_reducible refine⟨_,sv (gF _ (by omega) (by omega)),?_⟩) | refine⟨_,rfl,?_⟩ | refine And.intro (show gK _ _=true by kernel_rfl) ?_ | refine And.intro (by omega) ?_));exact hq.out):p:=s ⟨h⟩
theorem aP {p q:Prop} (h:q) (s:FW q→p:=by intro hq;(repeat((try conv=>whnf);first | (with_reducible refine Rt.go ?_) | (with_reducible refine Rs.go ?_) | (with_reducible refine tR ?_) | (with_reducible refine And.intro (Nat.zero_le _) ?_) | (with_reducible refine And.intro rfl ?_) | (with_reducible refine⟨fun _=>?_,fun h=>Bool.noConfusion h⟩) | (with_reducible refine⟨fun h=>Bool.noConfusion h,fun _=>?_⟩) | (with_reducible refine⟨_,sv (zH _ _),?_⟩) | (with_reducible refine⟨_,sv (we _ _),?_⟩) | (with_reducible refine⟨_,sv (zI _ _),?_⟩) | (with_reducible refine⟨_,sv (Ha _ _),?_⟩) | (with_reducible refine⟨_,sv (zJ _),?_⟩) | (with_reducible refine⟨_,sv (Hc _ _ (by omega) (by omega)),?_⟩) | (with_reducible refine⟨_,sv (Hd _ _ (by omega) (by omega)),?_⟩) | (with_reducible refine⟨_,sv (pE _),?_⟩) | (with_reducible refine⟨_,sv (iY _),?_⟩) | (with_reducible refine⟨_,sv (eo _ (by omega) (by omega)),?_⟩) | (with_reducible refine⟨_,sv (bM _ (by omega) (by omega)),?_⟩) | (with_reducible refine⟨_,sv (gF _ (by omega) (by omega)),?_⟩) | refine⟨_,rfl,?_⟩ | refine And.intro (show gK _ _=true by kernel_rfl) ?_ | refine And.intro (by omega) ?_));exact hq.out):p:=s ⟨h⟩
theorem aa {p q:Prop} (h:q) (s:FW q→p:=by intro hq;(repeat(first | ((with_reducible apply ub);(case hp=>exact rfl);(case hc=>exact rfl);(case hm=>exact rfl);(case hr=>exact rfl);(case hk=>kernel_rfl)) | ((with_reducible apply pz);(case hp=>exact rfl);(case hy=>exact rfl);(case hc=>exact rfl);(case hpe=>exact Nat.zero_le _);(case hm=>exact rfl);(case hs=>exact rfl);(case hk=>kernel_rfl)) | ((with_reducible apply zF);(case hx=>exact rfl);(case ht=>exact rfl);(case hk=>kernel_rfl)) | ((with_reducible apply pB);(case ht=>exact rfl);(case hz=>exact rfl);(case hk=>kernel_rfl)) | ((with_reducible apply wb);(case hb=>exact rfl);(case he=>exact jV)) | ((with_reducible apply xD)) | ((with_reducible apply tU)) | ((with_reducible apply zA)) | ((with_reducible apply tQ)) | ((with_reducible apply uc);(case ho=>exact rfl);(case hp=>exact rfl);(case hc=>exact rfl);(case hm=>exact rfl);(case hr=>exact rfl);(case hk=>kernel_rfl)) | ((with_reducible apply pA);(case ho=>exact rfl);(case hp=>exact rfl);(case hy=>exact rfl);(case hc=>exact rfl);(case hpe=>exact Nat.zero_le _);(case hm=>exact rfl);(case hs=>exact rfl);(case hk=>kernel_rfl)) | ((with_reducible apply wc);(case ho=>exact rfl);(case hb=>exact rfl);(case he=>exact jV)) | ((with_reducible apply zB);(case ho=>exact (show gK _ _=true by kernel_rfl))) | ((with_reducible apply qJ);(case hb=>exact rfl);(case he=>exact jV)) | ((with_reducible apply tS);(case hb=>exact rfl);(case he=>exact jV)) | ((with_reducible apply tT);(case hs=>exact rfl);(case hv=>exact rfl);(case hb=>exact rfl);(case he=>exact jV)) | ((with_reducible apply lW);(case hs=>exact rfl);(case hv=>exact rfl);(case hd=>exact rfl)) | ((with_reducible apply lX);(case hs=>exact rfl);(case hv=>exact rfl);(case hd=>exact rfl)) | ((with_reducible apply py);(case hq=>exact rfl);(case hv=>exact rfl);(case he=>exact jV);(case hd=>exact rfl)) | ((with_reducible apply qI);(case hq=>exact rfl);(case hv=>exact rfl);(case he=>exact jV)) | ((with_reducible apply aL);(case hq=>exact rfl);(case hv=>exact rfl);(case he=>exact jV);(case hd=>exact rfl)) | ((with_reducible apply CN)) | ((with_reducible apply tK)) | ((with_reducible apply tN)) | ((with_reducible apply lR)) | ((with_reducible apply pa);(case he=>exact rfl)) | ((with_reducible apply pg);(case he=>exact rfl)) | ((with_reducible apply o9)) | ((with_reducible apply tL)) | ((with_reducible apply tM)) | ((with_reducible apply zx)) | ((with_reducible apply tO)) | ((with_reducible apply tP)) | ((with_reducible apply lS)) | ((with_reducible apply lT)) | ((with_reducible apply lU);(case hb=>exact rfl)) | ((with_reducible apply lV);(case hb=>exact rfl)) | ((with_reducible apply pw)) | ((with_reducible apply px)) | ((with_reducible apply o8)) | (with_reducible refine po (by assumption) ?_) | (with_reducible refine pq (by assumption) ?_) | ((with_reducible apply qK);(case ho=>exact rfl);(case hb=>exact rfl);(case he=>exact jV)) | ((with_reducible apply tY);(case ho=>exact rfl);(case hs=>exact rfl);(case hv=>exact rfl);(case hb=>exact rfl);(case he=>exact jV)) | ((with_reducible apply zD);(case ho=>exact rfl);(case hb=>exact rfl);(case he=>exact jV)) | ((with_reducible apply tX)) | ((with_reducible apply kX);(case ho=>exact rfl)) | ((with_reducible apply lY);(case hs=>exact rfl);(case hv=>exact rfl);(case hd=>exact rfl)) | ((with_reducible apply lZ);(case hs=>exact rfl);(case hv=>exact rfl);(case hd=>exact rfl)) | ((with_reducible apply ku);(case hs=>exact rfl);(case hv=>exact rfl)) | ((with_reducible apply zC)) | ((with_reducible apply oe);(case hv=>exact rfl);(case he=>exact jV);(case hd=>exact rfl)) | ((with_reducible apply mY);(case hv=>exact rfl);(case he=>exact jV)) | ((with_reducible apply aZ);(case hv=>exact rfl);(case he=>exact jV);(case hd=>exact rfl)) | ((with_reducible apply kq);(case hs=>exact rfl);(case hv=>exact rfl)) | ((with_reducible apply zz))));exact hq.out):p:=s ⟨h⟩
theorem Lt {p q:Prop} (h:q) (s:FW q→p:=by intro hq;((first | ((with_reducible apply ub);(case hp=>exact rfl);(case hc=>exact rfl);(case hm=>exact rfl);(case hr=>exact rfl);(case hk=>kernel_rfl)) | ((with_reducible apply pz);(case hp=>exact rfl);(case hy=>exact rfl);(case hc=>exact rfl);(case hpe=>exact Nat.zero_le _);(case hm=>exact rfl);(case hs=>exact rfl);(case hk=>kernel_rfl)) | ((with_reducible apply zF);(case hx=>exact rfl);(case ht=>exact rfl);(case hk=>kernel_rfl)) | ((with_reducible apply pB);(case ht=>exact rfl);(case hz=>exact rfl);(case hk=>kernel_rfl)) | ((with_reducible apply wb);(case hb=>exact rfl);(case he=>exact jV)) | ((with_reducible apply xD)) | ((with_reducible apply tU)) | ((with_reducible apply zA)) | ((with_reducible apply tQ)) | ((with_reducible apply uc);(case ho=>exact rfl);(case hp=>exact rfl);(case hc=>exact rfl);(case hm=>exact rfl);(case hr=>exact rfl);(case hk=>kernel_rfl)) | ((with_reducible apply pA);(case ho=>exact rfl);(case hp=>exact rfl);(case hy=>exact rfl);(case hc=>exact rfl);(case hpe=>exact Nat.zero_le _);(case hm=>exact rfl);(case hs=>exact rfl);(case hk=>kernel_rfl)) | ((with_reducible apply wc);(case ho=>exact rfl);(case hb=>exact rfl);(case he=>exact jV)) | ((with_reducible apply zB);(case ho=>exact (show gK _ _=true by kernel_rfl))) | ((with_reducible apply qJ);(case hb=>exact rfl);(case he=>exact jV)) | ((with_reducible apply tS);(case hb=>exact rfl);(case he=>exact jV)) | ((with_reducible apply tT);(case hs=>exact rfl);(case hv=>exact rfl);(case hb=>exact rfl);(case he=>exact jV)) | ((with_reducible apply lW);(case hs=>exact rfl);(case hv=>exact rfl);(case hd=>exact rfl)) | ((with_reducible apply lX);(case hs=>exact rfl);(case hv=>exact rfl);(case hd=>exact rfl)) | ((with_reducible apply py);(case hq=>exact rfl);(case hv=>exact rfl);(case he=>exact jV);(case hd=>exact rfl)) | ((with_reducible apply qI);(case hq=>exact rfl);(case hv=>exact rfl);(case he=>exact jV)) | ((with_reducible apply aL);(case hq=>exact rfl);(case hv=>exact rfl);(case he=>exact jV);(case hd=>exact rfl)) | ((with_reducible apply CN)) | ((with_reducible apply tK)) | ((with_reducible apply tN)) | ((with_reducible apply lR)) | ((with_reducible apply pa);(case he=>exact rfl)) | ((with_reducible apply pg);(case he=>exact rfl)) | ((with_reducible apply o9)) | ((with_reducible apply tL)) | ((with_reducible apply tM)) | ((with_reducible apply zx)) | ((with_reducible apply tO)) | ((with_reducible apply tP)) | ((with_reducible apply lS)) | ((with_reducible apply lT)) | ((with_reducible apply lU);(case hb=>exact rfl)) | ((with_reducible apply lV);(case hb=>exact rfl)) | ((with_reducible apply pw)) | ((with_reducible apply px)) | ((with_reducible apply o8)) | (with_reducible refine po (by assumption) ?_) | (with_reducible refine pq (by assumption) ?_) | ((with_reducible apply qK);(case ho=>exact rfl);(case hb=>exact rfl);(case he=>exact jV)) | ((with_reducible apply tY);(case ho=>exact rfl);(case hs=>exact rfl);(case hv=>exact rfl);(case hb=>exact rfl);(case he=>exact jV)) | ((with_reducible apply zD);(case ho=>exact rfl);(case hb=>exact rfl);(case he=>exact jV)) | ((with_reducible apply tX)) | ((with_reducible apply kX);(case ho=>exact rfl)) | ((with_reducible apply lY);(case hs=>exact rfl);(case hv=>exact rfl);(case hd=>exact rfl)) | ((with_reducible apply lZ);(case hs=>exact rfl);(case hv=>exact rfl);(case hd=>exact rfl)) | ((with_reducible apply ku);(case hs=>exact rfl);(case hv=>exact rfl)) | ((with_reducible apply zC)) | ((with_reducible apply oe);(case hv=>exact rfl);(case he=>exact jV);(case hd=>exact rfl)) | ((with_reducible apply mY);(case hv=>exact rfl);(case he=>exact jV)) | ((with_reducible apply aZ);(case hv=>exact rfl);(case he=>exact jV);(case hd=>exact rfl)) | ((with_reducible apply kq);(case hs=>exact rfl);(case hv=>exact rfl)) | ((with_reducible apply zz))));exact hq.out):p:=s ⟨h⟩
theorem JX {p q:Prop} (h:q) (s:FW q→p:=by intro hq;(repeat(first | ((with_reducible apply ub);(case hp=>exact rfl);(case hc=>exact rfl);(case hm=>exact rfl);(case hr=>exact rfl);(case hk=>kernel_rfl)) | ((with_reducible apply pz);(case hp=>exact rfl);(case hy=>exact rfl);(case hc=>exact rfl);(case hpe=>exact Nat.zero_le _);(case hm=>exact rfl);(case hs=>exact rfl);(case hk=>kernel_rfl)) | ((with_reducible apply zF);(case hx=>exact rfl);(case ht=>exact rfl);(case hk=>kernel_rfl)) | ((with_reducible apply pB);(case ht=>exact rfl);(case hz=>exact rfl);(case hk=>kernel_rfl)) | ((with_reducible apply wb);(case hb=>exact rfl);(case he=>exact CP)) | ((with_reducible apply xD)) | ((with_reducible apply tU)) | ((with_reducible apply zA)) | ((with_reducible apply tQ)) | ((with_reducible apply uc);(case ho=>exact rfl);(case hp=>exact rfl);(case hc=>exact rfl);(case hm=>exact rfl);(case hr=>exact rfl);(case hk=>kernel_rfl)) | ((with_reducible apply pA);(case ho=>exact rfl);(case hp=>exact rfl);(case hy=>exact rfl);(case hc=>exact rfl);(case hpe=>exact Nat.zero_le _);(case hm=>exact rfl);(case hs=>exact rfl);(case hk=>kernel_rfl)) | ((with_reducible apply wc);(case ho=>exact rfl);(case hb=>exact rfl);(case he=>exact CP)) | ((with_reducible apply zB);(case ho=>exact (show gK _ _=true by kernel_rfl))) | ((with_reducible apply qJ);(case hb=>exact rfl);(case he=>exact CP)) | ((with_reducible apply tS);(case hb=>exact rfl);(case he=>exact CP)) | ((with_reducible apply tT);(case hs=>exact rfl);(case hv=>exact rfl);(case hb=>exact rfl);(case he=>exact CP)) | ((with_reducible apply lW);(case hs=>exact rfl);(case hv=>exact rfl);(case hd=>exact rfl)) | ((with_reducible apply lX);(case hs=>exact rfl);(case hv=>exact rfl);(case hd=>exact rfl)) | ((with_reducible apply py);(case hq=>exact rfl);(case hv=>exact rfl);(case he=>exact CP);(case hd=>exact rfl)) | ((with_reducible apply qI);(case hq=>exact rfl);(case hv=>exact rfl);(case he=>exact CP)) | ((with_reducible apply aL);(case hq=>exact rfl);(case hv=>exact rfl);(case he=>exact CP);(case hd=>exact rfl)) | ((with_reducible apply CN)) | ((with_reducible apply tK)) | ((with_reducible apply tN)) | ((with_reducible apply lR)) | ((with_reducible apply pa);(case he=>exact rfl)) | ((with_reducible apply pg);(case he=>exact rfl)) | ((with_reducible apply o9)) | ((with_reducible apply tL)) | ((with_reducible apply tM)) | ((with_reducible apply zx)) | ((with_reducible apply tO)) | ((with_reducible apply tP)) | ((with_reducible apply lS)) | ((with_reducible apply lT)) | ((with_reducible apply lU);(case hb=>exact rfl)) | ((with_reducible apply lV);(case hb=>exact rfl)) | ((with_reducible apply pw)) | ((with_reducible apply px)) | ((with_reducible apply o8)) | (with_reducible refine po (by assumption) ?_) | (with_reducible refine pq (by assumption) ?_) | ((with_reducible apply qK);(case ho=>exact rfl);(case hb=>exact rfl);(case he=>exact CP)) | ((with_reducible apply tY);(case ho=>exact rfl);(case hs=>exact rfl);(case hv=>exact rfl);(case hb=>exact rfl);(case he=>exact CP)) | ((with_reducible apply zD);(case ho=>exact rfl);(case hb=>exact rfl);(case he=>exact CP)) | ((with_reducible apply tX)) | ((with_reducible apply kX);(case ho=>exact rfl)) | ((with_reducible apply lY);(case hs=>exact rfl);(case hv=>exact rfl);(case hd=>exact rfl)) | ((with_reducible apply lZ);(case hs=>exact rfl);(case hv=>exact rfl);(case hd=>exact rfl)) | ((with_reducible apply ku);(case hs=>exact rfl);(case hv=>exact rfl)) | ((with_reducible apply zC)) | ((with_reducible apply oe);(case hv=>exact rfl);(case he=>exact CP);(case hd=>exact rfl)) | ((with_reducible apply mY);(case hv=>exact rfl);(case he=>exact CP)) | ((with_reducible apply aZ);(case hv=>exact rfl);(case he=>exact CP);(case hd=>exact rfl)) | ((with_reducible apply kq);(case hs=>exact rfl);(case hv=>exact rfl)) | ((with_reducible apply zz))));exact hq.out):p:=s ⟨h⟩
theorem He {p q:Prop} (h:q) (s:FW q→p:=by intro hq;(repeat(first | ((with_reducible apply ub);(case hp=>exact rfl);(case hc=>exact rfl);(case hm=>exact rfl);(case hr=>exact rfl);(case hk=>kernel_rfl)) | ((with_reducible apply pz);(case hp=>exact rfl);(case hy=>exact rfl);(case hc=>exact rfl);(case hpe=>exact Nat.zero_le _);(case hm=>exact rfl);(case hs=>exact rfl);(case hk=>kernel_rfl)) | ((with_reducible apply zF);(case hx=>exact rfl);(case ht=>exact rfl);(case hk=>kernel_rfl)) | ((with_reducible apply pB);(case ht=>exact rfl);(case hz=>exact rfl);(case hk=>kernel_rfl)) | ((with_reducible apply wb);(case hb=>exact rfl);(case he=>exact CQ)) | ((with_reducible apply xD)) | ((with_reducible apply tU)) | ((with_reducible apply zA)) | ((with_reducible apply tQ)) | ((with_reducible apply uc);(case ho=>exact rfl);(case hp=>exact rfl);(case hc=>exact rfl);(case hm=>exact rfl);(case hr=>exact rfl);(case hk=>kernel_rfl)) | ((with_reducible apply pA);(case ho=>exact rfl);(case hp=>exact rfl);(case hy=>exact rfl);(case hc=>exact rfl);(case hpe=>exact Nat.zero_le _);(case hm=>exact rfl);(case hs=>exact rfl);(case hk=>kernel_rfl)) | ((with_reducible apply wc);(case ho=>exact rfl);(case hb=>exact rfl);(case he=>exact CQ)) | ((with_reducible apply zB);(case ho=>exact (show gK _ _=true by kernel_rfl))) | ((with_reducible apply qJ);(case hb=>exact rfl);(case he=>exact CQ)) | ((with_reducible apply tS);(case hb=>exact rfl);(case he=>exact CQ)) | ((with_reducible apply tT);(case hs=>exact rfl);(case hv=>exact rfl);(case hb=>exact rfl);(case he=>exact CQ)) | ((with_reducible apply lW);(case hs=>exact rfl);(case hv=>exact rfl);(case hd=>exact rfl)) | ((with_reducible apply lX);(case hs=>exact rfl);(case hv=>exact rfl);(case hd=>exact rfl)) | ((with_reducible apply py);(case hq=>exact rfl);(case hv=>exact rfl);(case he=>exact CQ);(case hd=>exact rfl)) | ((with_reducible apply qI);(case hq=>exact rfl);(case hv=>exact rfl);(case he=>exact CQ)) | ((with_reducible apply aL);(case hq=>exact rfl);(case hv=>exact rfl);(case he=>exact CQ);(case hd=>exact rfl)) | ((with_reducible apply CN)) | ((with_reducible apply tK)) | ((with_reducible apply tN)) | ((with_reducible apply lR)) | ((with_reducible apply pa);(case he=>exact rfl)) | ((with_reducible apply pg);(case he=>exact rfl)) | ((with_reducible apply o9)) | ((with_reducible apply tL)) | ((with_reducible apply tM)) | ((with_reducible apply zx)) | ((with_reducible apply tO)) | ((with_reducible apply tP)) | ((with_reducible apply lS)) | ((with_reducible apply lT)) | ((with_reducible apply lU);(case hb=>exact rfl)) | ((with_reducible apply lV);(case hb=>exact rfl)) | ((with_reducible apply pw)) | ((with_reducible apply px)) | ((with_reducible apply o8)) | (with_reducible refine po (by assumption) ?_) | (with_reducible refine pq (by assumption) ?_) | ((with_reducible apply qK);(case ho=>exact rfl);(case hb=>exact rfl);(case he=>exact CQ)) | ((with_reducible apply tY);(case ho=>exact rfl);(case hs=>exact rfl);(case hv=>exact rfl);(case hb=>exact rfl);(case he=>exact CQ)) | ((with_reducible apply zD);(case ho=>exact rfl);(case hb=>exact rfl);(case he=>exact CQ)) | ((with_reducible apply tX)) | ((with_reducible apply kX);(case ho=>exact rfl)) | ((with_reducible apply lY);(case hs=>exact rfl);(case hv=>exact rfl);(case hd=>exact rfl)) | ((with_reducible apply lZ);(case hs=>exact rfl);(case hv=>exact rfl);(case hd=>exact rfl)) | ((with_reducible apply ku);(case hs=>exact rfl);(case hv=>exact rfl)) | ((with_reducible apply zC)) | ((with_reducible apply oe);(case hv=>exact rfl);(case he=>exact CQ);(case hd=>exact rfl)) | ((with_reducible apply mY);(case hv=>exact rfl);(case he=>exact CQ)) | ((with_reducible apply aZ);(case hv=>exact rfl);(case he=>exact CQ);(case hd=>exact rfl)) | ((with_reducible apply kq);(case hs=>exact rfl);(case hv=>exact rfl)) | ((with_reducible apply zz))));exact hq.out):p:=s ⟨h⟩
theorem vm {n0:Nat} {E':VE} {M':VM} {n':Nat} {E:VE} {M:VM} (σ bs:List (Nat×Nat)) (h1:mE (da n0 σ) (kI M bs) E' E:=by exact mm) (h2:mM (da n0 σ) (kI M bs) M' (VM.bump M bs):=by exact mm) (h3:r9 n0 n' σ=true:=by exact rfl) (h4:Bd M bs:=by exact mm) (h5:M'.all (fun x=>Nat.blt x.1 n')=true:=by exact rfl):gI n0 E' M' n' E M:=gI.of σ bs h1 h2 h3 h4 h5
theorem cI {R:MV×Dl→Prop} {p q:Prop} {x:MV×Dl} (_hR:R x) (h:q) (s:FW q→p:=by intro hq;first | ((with_reducible apply l9);(case hp=>exact rfl);(case hc=>exact rfl);(case hm=>exact rfl);(case hr=>exact rfl);(case hk=>kernel_rfl);(case hR=>exact hR)) | ((with_reducible apply mZ);(case hp=>exact rfl);(case hy=>exact rfl);(case hc=>exact rfl);(case hpe=>exact Nat.zero_le _);(case hm=>exact rfl);(case hs=>exact rfl);(case hk=>kernel_rfl);(case hR=>exact hR)) | ((with_reducible apply ua);(case hx=>exact rfl);(case ht=>exact rfl);(case hk=>kernel_rfl);(case hR=>exact hR)) | ((with_reducible apply l8);(case ht=>exact rfl);(case hz=>exact rfl);(case hk=>kernel_rfl);(case hR=>exact hR)) | (repeat(first | exact hR | ((try conv=>whnf);first | exact hR | (with_reducible refine And.intro (Nat.zero_le _) ?_) | (with_reducible refine And.intro rfl ?_) | (with_reducible refine⟨_,cE (by omega),?_⟩) | (with_reducible refine⟨fun _=>?_,fun h=>Bool.noConfusion h⟩) | (with_reducible refine⟨fun h=>Bool.noConfusion h,fun _=>?_⟩) | (with_reducible refine⟨_,sv (eo _ (by omega) (by omega)),?_⟩) | (with_reducible refine⟨_,sv (bM _ (by omega) (by omega)),?_⟩) | (with_reducible refine⟨_,sv (gF _ (by omega) (by omega)),?_⟩) | (refine⟨_,rfl,?_⟩) | (refine And.intro (by omega) ?_))));exact hq.out):p:=s ⟨h⟩
theorem pl:(∀(p:Prop) [Decidable p],(decide p=true)=p)∧(∀(p:Prop) [Decidable p],(decide p=false)= ¬p)∧(∀{α:Type} [BEq α] [LawfulBEq α] {a b:α},((a == b)=true)=(a=b))∧(∀{α:Type} [BEq α] [LawfulBEq α] {a b:α},((a !=b)=true)=(a≠b))∧(∀{α:Type} (a b:α),(a≠b)= ¬(a=b))∧(!true)=false∧(!false)=true∧
  (∀{α:Type} [BEq α] [LawfulBEq α] {a b:α},((a == b)=false)=(a≠b))∧(∀{α:Type} [BEq α] [LawfulBEq α] {a b:α},((a !=b)=false)=(a=b))∧(∀b:Bool,(¬b=true)=(b=false))∧(∀b:Bool,(¬b=false)=(b=true))∧(∀{a b:Bool},((!a)=b)=(a= !b)):=
 ⟨fun p _=>decide_eq_true_eq,fun _ _=>propext decide_eq_false_iff_not,propext beq_iff_eq,propext bne_iff_ne,ne_eq,rfl,rfl,propext beq_eq_false_iff_ne,propext bne_eq_false_iff_eq,Bool.not_eq_true,Bool.not_eq_false,propext Bool.not_eq_eq_eq_not⟩
theorem en {n0 n1:Nat} {res:MV} {M1 M:VM} {vs:List MV} (rv:List MV) (h1:iy rv=res:=by exact rfl) (h2:eu.relVs (da n0 []) (kI M []) rv vs:=by exact lm) (h3:mM (da n0 []) (kI M []) M1 (VM.bump M []):=by exact mm) (h4:r9 n0 n1 [] =true:=by exact rfl) (h5:M1.all (fun x=>Nat.blt x.1 n1)=true:=by exact rfl): ∃(rv:List MV) (σ bs:List (Nat×Nat)),iy rv=res∧eB n0 rv M1 n1 vs M σ bs:=⟨rv,[],[],h1,h4,trivial,h5,h2,h3⟩
theorem eb {n0 n1:Nat} {res:MV} {M1 M:VM} {vs:List MV} (rv:List MV) (σ bs:List (Nat×Nat)) (h1:iy rv=res:=by exact rfl) (h2:eu.relVs (da n0 σ) (kI M bs) rv vs:=by exact lm) (h3:mM (da n0 σ) (kI M bs) M1 (VM.bump M bs):=by exact mm) (h4:r9 n0 n1 σ=true:=by exact rfl) (h5:M1.all (fun x=>Nat.blt x.1 n1)=true:=by exact rfl) (h6:Bd M bs:=by exact mm): ∃(rv:List MV) (σ bs:List (Nat×Nat)),iy rv=res∧eB n0 rv M1 n1 vs M σ bs:=⟨rv,σ,bs,h1,h4,h6,h5,h2,h3⟩
section
variable {Pg:Program} {T:bB} {N:Nat} {ents:List FuncId} {G:GS} {n0:Nat} {ops:Array Oper} {d:Tmp} {ty:TypeId} {pos:String} {after:Array Edge} {g:Option (Nat×Bool)} {rest:List Oper} {K:VK} {J:List Nat→VE→VM→Prop} {E:VE} {M:VM} {n:Nat} {f:Operand} {args:Array Operand} {ats:Array TypeId} {f0:FuncId} {vs args':List MV} {res:MV}
theorem yr (hc:aQ Pg G f0 args' [] 0 res [] 0) (h:ak Pg T N ents G ops rest K ((d,res) :: E) M n) (h1: ∀R:FuncId×List MV→Prop,R (f0,vs)→(dX E f args.toList).runP R:=by exact fun _ h=>h) (hd:Nat.blt d N=true:=by exact rfl) (h2:ents.contains f0=true:=by exact rfl) (hf:dM res=true:=by exact rfl) (hm:eu.relVs (da 0 []) (kI M []) args' vs:=by exact lm):aB Pg T N ents G ops ⟨some d, .call ⟨.value f,args,ats⟩,ty,pos,after,g⟩ rest K E M n:=sC hd h1 h2 hc hf hm h
theorem jW (hc:aQ Pg G f0 args' [] 0 res [] 0) {q:Prop} (h:q) (h1: ∀R:FuncId×List MV→Prop,R (f0,vs)→(dX E f args.toList).runP R:=by exact fun _ h=>h) (hd:Nat.blt d N=true:=by exact rfl) (h2:ents.contains f0=true:=by exact rfl) (hf:dM res=true:=by exact rfl) (hm:eu.relVs (da 0 []) (kI M []) args' vs:=by exact lm) (s:FW q→ak Pg T N ents G ops rest K ((d,res) :: E) M n:=by exact fun b=>aa b.out):aB Pg T N ents G ops ⟨some d, .call ⟨.value f,args,ats⟩,ty,pos,after,g⟩ rest K E M n:=yr hc (s ⟨h⟩) h1 hd h2 hf hm
theorem yv (hc:aE Pg G f0 args' res) (h:ak Pg T N ents G ops rest K ((d,res) :: E) M n) (h1: ∀R:FuncId×List MV→Prop,R (f0,vs)→(dX E f args.toList).runP R:=by exact fun _ h=>h) (hd:Nat.blt d N=true:=by exact rfl) (h2:ents.contains f0=true:=by exact rfl) (hf:dM res=true:=by exact rfl) (hm:eu.relVs (da 0 []) (kI M []) args' vs:=by exact lm):aB Pg T N ents G ops ⟨some d, .call ⟨.value f,args,ats⟩,ty,pos,after,g⟩ rest K E M n:=sC hd h1 h2 (du hc) hf hm h
theorem dL (hc:aE Pg G f0 args' res) {q:Prop} (h:q) (h1: ∀R:FuncId×List MV→Prop,R (f0,vs)→(dX E f args.toList).runP R:=by exact fun _ h=>h) (hd:Nat.blt d N=true:=by exact rfl) (h2:ents.contains f0=true:=by exact rfl) (hf:dM res=true:=by exact rfl) (hm:eu.relVs (da 0 []) (kI M []) args' vs:=by exact lm) (s:FW q→ak Pg T N ents G ops rest K ((d,res) :: E) M n:=by exact fun b=>aa b.out):aB Pg T N ents G ops ⟨some d, .call ⟨.value f,args,ats⟩,ty,pos,after,g⟩ rest K E M n:=yv hc (s ⟨h⟩) h1 hd h2 hf hm
theorem Pr (hc:aQ Pg G f0 args' [] 0 res [] 0) (h:J [] ((d,res) :: E) M) (h1: ∀R:FuncId×List MV→Prop,R (f0,vs)→(dX E f args.toList).runP R:=by exact fun _ h=>h) (hd:Nat.blt d N=true:=by exact rfl) (h2:ents.contains f0=true:=by exact rfl) (hf:dM res=true:=by exact rfl) (hm:eu.relVs (da 0 []) (kI M []) args' vs:=by exact lm):aI Pg T N ents G true ⟨some d, .call ⟨.value f,args,ats⟩,ty,pos,after,g⟩ J E M n:=bQ hd h1 h2 [] hc hf [] trivial hm rfl h
theorem pF (hc:aQ Pg G f0 args' [] 0 res [] 0) {q:Prop} (h:q) (h1: ∀R:FuncId×List MV→Prop,R (f0,vs)→(dX E f args.toList).runP R:=by exact fun _ h=>h) (hd:Nat.blt d N=true:=by exact rfl) (h2:ents.contains f0=true:=by exact rfl) (hf:dM res=true:=by exact rfl) (hm:eu.relVs (da 0 []) (kI M []) args' vs:=by exact lm) (s:FW q→J [] ((d,res) :: E) M:=by exact fun b=>aa b.out):aI Pg T N ents G true ⟨some d, .call ⟨.value f,args,ats⟩,ty,pos,after,g⟩ J E M n:=Pr hc (s ⟨h⟩) h1 hd h2 hf hm
theorem OT (hc:aE Pg G f0 args' res) (h:J [] ((d,res) :: E) M) (h1: ∀R:FuncId×List MV→Prop,R (f0,vs)→(dX E f args.toList).runP R:=by exact fun _ h=>h) (hd:Nat.blt d N=true:=by exact rfl) (h2:ents.contains f0=true:=by exact rfl) (hf:dM res=true:=by exact rfl) (hm:eu.relVs (da 0 []) (kI M []) args' vs:=by exact lm):aI Pg T N ents G true ⟨some d, .call ⟨.value f,args,ats⟩,ty,pos,after,g⟩ J E M n:=bQ hd h1 h2 [] (du hc) hf [] trivial hm rfl h
theorem cW (hc:aE Pg G f0 args' res) {q:Prop} (h:q) (h1: ∀R:FuncId×List MV→Prop,R (f0,vs)→(dX E f args.toList).runP R:=by exact fun _ h=>h) (hd:Nat.blt d N=true:=by exact rfl) (h2:ents.contains f0=true:=by exact rfl) (hf:dM res=true:=by exact rfl) (hm:eu.relVs (da 0 []) (kI M []) args' vs:=by exact lm) (s:FW q→J [] ((d,res) :: E) M:=by exact fun b=>aa b.out):aI Pg T N ents G true ⟨some d, .call ⟨.value f,args,ats⟩,ty,pos,after,g⟩ J E M n:=OT hc (s ⟨h⟩) h1 hd h2 hf hm
theorem yc {M0:VM} {M1:VM} {n1:Nat} (hc:aQ Pg G f0 args' M0 n0 res M1 n1) (σ:List (Nat×Nat)) (h:ak Pg T N ents G ops rest K ((d,dr (rK n σ) res) :: E) (jO (rK n σ) M1 ++ iI M σ) (n + n1)) (h1: ∀R:FuncId×List MV→Prop,R (f0,vs)→(dX E f args.toList).runP R:=by exact fun _ h=>h) (hd:Nat.blt d N=true:=by exact rfl) (h2:ents.contains f0=true:=by exact rfl) (h5:r9 0 n0 σ=true:=by exact rfl) (h6:M0.all (fun x=>Nat.blt x.1 n0)=true:=by exact rfl) (hm:eu.relVs (da 0 σ) (kI M []) args' vs:=by exact lm) (h7:mM (da 0 σ) (kI M []) M0 (VM.bump M []):=by exact mm) (h3:iv M σ=true:=by exact rfl) (h4:M1.all (fun x=>Nat.blt x.1 n1)=true:=by exact rfl):aB Pg T N ents G ops ⟨some d, .call ⟨.value f,args,ats⟩,ty,pos,after,g⟩ rest K E M n:=bC hd h1 h2 hc σ [] ⟨h5,trivial,h6,hm,h7⟩ h3 h4 h
end
end
section
def cX (n:Nat):List UInt8:=if _h:n < 128 then [UInt8.ofNat n] else UInt8.ofNat (n % 128 + 128) :: cX (n / 128)
termination_by n
theorem na {n:Nat} (h:n < 128):cX n= [UInt8.ofNat n] :=by rw [cX,dif_pos h]
theorem sD {n:Nat} (h: ¬ n < 128):cX n=UInt8.ofNat (n % 128 + 128) :: cX (n / 128):=by rw [cX,dif_neg h]
def readS:List UInt8→Nat→Nat→Nat×Nat×Nat
 | [],_,_=>(0,0,5)
 | x :: r,i,n=>
  if i=9∧1 < x.toNat then(0,0,6) else if 0 < i∧x.toNat=0 then(0,0,4) else
  if x.toNat < 128 then(n + x.toNat * 128 ^ i,i + 1,0) else readS r (i + 1) (n + (x.toNat - 128) * 128 ^ i)
theorem jK {n:Nat} (h:n < 256):(UInt8.ofNat n).toNat=n:=by rw [UInt8.toNat_ofNat'];omega
theorem zK: ∀(k n:Nat),n < 128 ^ (k + 1)→1≤(cX n).length∧(cX n).length≤k + 1
 | 0,n,h=>by rw [na om];simp
 | k + 1,n,h=>by
  by_cases hn:n < 128
  ·rw [na hn];simp
  ·rw [sD hn]
   have:=zK k (n / 128) (by rw [c₇] at h;omega)
   simp only [b₈]
   omega
theorem dF {n:Nat} (h:n < 18446744073709551616):1≤(cX n).length∧(cX n).length≤10:=zK 9 n om
theorem zL: ∀(m n:Nat),n≤m→∀(i acc:Nat) (r:List UInt8),i≤9→n * 128 ^ i < 18446744073709551616→(0 < i→0 < n)→readS (cX n ++ r) i acc=(acc + n * 128 ^ i,i + (cX n).length,0)
 | m,n,hm,i,acc,r,hi,hb,h0=>by
  have h9:i=9→n≤1:=fun h=>by subst h;omega
  by_cases hn:n < 128
  ·rw [na hn]
   simp only [List.singleton_append,readS,jK (show n < 256 by omega),d₁]
   rw [if_neg om,if_neg om,if_pos hn]
  ·rw [sD hn]
   have h9':i≠9:=fun h=>by have:=h9 h;omega
   simp only [List.cons_append,readS,jK (show n % 128 + 128 < 256 by omega),b₈]
   rw [if_neg om,if_neg om,if_neg om]
   have e:n=128 * (n / 128) + n % 128:=(g₀ n 128).symm
   have e2:n * 128 ^ i=(n / 128) * 128 ^ (i + 1) + n % 128 * 128 ^ i:=by
    rw [c₇]
    conv=>lhs;rw [e,Nat.add_mul]
    rw [e₈ 128 (n / 128),Nat.mul_assoc,e₈ 128 (128 ^ i)]
   match m,hm with
   | 0,hm=>exact absurd hm om
   | m + 1,hm=>
    rw [zL m (n / 128) om (i + 1) _ r om om om]
    rw [show n % 128 + 128 - 128=n % 128 by omega,e2]
    refine d₅ dm (d₅ dm rfl)
theorem qN {n:Nat} (h:n < 18446744073709551616) (r:List UInt8):readS (cX n ++ r) 0 0=(n,(cX n).length,0):=by
 have:=zL n n (b₄ n) 0 0 r om om om;rw [this];refine d₅ dm (d₅ dm rfl)
theorem kY: ∀(b:List UInt8) (i n:Nat),i≤9→n < 128 ^ i→(readS b i n).2.2=0→i < (readS b i n).2.1∧(readS b i n).2.1≤i + b.length∧(readS b i n).1 < 18446744073709551616
 | [],i,n,_,_,h=>by simp [readS] at h
 | x :: r,i,n,hi,hn,h=>by
  have hx:=x.toNat_lt
  rw [readS] at h ⊢
  have hp:i≤8→128 ^ i≤72057594037927936:=fun h=>c₉ (e₄ om h) (by decide)
  split at h
  ·cases h
  ·rename_i h1
   rw [if_neg h1]
   split at h
   ·cases h
   ·rename_i h2
    rw [if_neg h2]
    split at h
    ·rename_i h3
     rw [if_pos h3]
     refine⟨dm,by dsimp only;simp only [b₈];omega,?_⟩
     dsimp only
     rcases d₀ i 9 with h9 | h9
     ·have:=hp om
      have h5:x.toNat * 128 ^ i≤127 * 128 ^ i:=a₈ _ om
      omega
     ·have:i=9:=om
      subst this
      omega
    ·rename_i h3
     rw [if_neg h3]
     have h9:i≠9:=fun he=>h1 ⟨he,om⟩
     have:=kY r (i + 1) (n + (x.toNat - 128) * 128 ^ i) om (by
      rw [c₇]
      have:(x.toNat - 128) * 128 ^ i≤127 * 128 ^ i:=a₈ _ om
      omega) h
     simp only [b₈]
     omega
structure eE where
 num:Nat
 kind:Nat
 val:Nat
 bytes:List UInt8
 deriving DecidableEq
def fld0:eE:=⟨0,0,0,[]⟩
def aV (f:eE):List UInt8:=cX (f.num * 8 + f.kind) ++ (if f.kind=0 then cX f.val else cX f.bytes.length ++ f.bytes)
def aF (l:List eE):List UInt8:=(l.map aV).flatten
def iz (f:eE):Prop:=1≤f.num∧f.num≤536870911∧(f.kind=0∧f.bytes= [] ∧f.val < 18446744073709551616∨f.kind=2∧f.val=0∧f.bytes.length < 18446744073709551616)
def fF (b:List UInt8):eE×Nat×Nat:=
 match readS b 0 0 with
 | (tag,n,e)=>if e≠0 then(fld0,0,e) else
  if tag / 8 < 1∨536870911 < tag / 8∨(tag % 8≠0∧tag % 8≠2) then(fld0,0,4) else
  match readS (b.drop n) 0 0 with
  | (v,k,e)=>if e≠0 then(fld0,0,e) else
   if tag % 8=0 then(⟨tag / 8,0,v,[]⟩,n + k,0) else
   if b.length - (n + k) < v then(fld0,0,5) else(⟨tag / 8,2,0,(b.drop (n + k)).take v⟩,n + k + v,0)
theorem EK {f:eE} (h:iz f) (r:List UInt8):fF (aV f ++ r)=(f,(aV f).length,0):=by
 obtain⟨num,kind,val,bytes⟩:=f;obtain⟨h1,h2,h3⟩:=h;dsimp only at h1 h2 h3;unfold fF aV;dsimp only;rw [c₁,qN om];dsimp only;rw [if_neg sm,if_neg om,e₀];rcases h3 with ⟨rfl,rfl,hv⟩ | ⟨rfl,rfl,hv⟩
 ·rw [if_pos rfl,qN hv];dsimp only;rw [if_neg sm,if_pos om,a₇,show (num * 8 + 0) / 8=num by omega]
 ·rw [if_neg (by omega: ¬ (2:Nat)=0),c₁,qN hv];dsimp only;have e:(cX (num * 8 + 2) ++ (cX bytes.length ++ (bytes ++ r))).drop ((cX (num * 8 + 2)).length + (cX bytes.length).length)=bytes ++ r:=by
   rw [← c₁,← a₇,e₀]
  rw [if_neg sm,if_neg om,if_neg (by simp only [a₇];omega),e,List.take_left,show (num * 8 + 2) / 8=num by omega];refine d₅ rfl (d₅ ?_ rfl);dsimp only;simp only [a₇];omega
theorem BG {b:List UInt8} (h:(fF b).2.2=0):1≤(fF b).2.1∧(fF b).2.1≤b.length∧iz (fF b).1∧(fF b).1.bytes.length≤b.length:=by
 have h1:=kY b 0 0 om om;unfold fF at h ⊢;generalize readS b 0 0=t at *;obtain⟨tag,n,e⟩:=t;dsimp only at *;split at h
 ·contradiction
 rename_i he;rw [if_neg he];have he:e=0:=om;split at h
 ·cases h
 rename_i ht;rw [if_neg ht];have h2:=kY (b.drop n) 0 0 om om;generalize readS (b.drop n) 0 0=u at *;obtain⟨v,k,e2⟩:=u;dsimp only at *;split at h
 ·contradiction
 rename_i he2;rw [if_neg he2];have hh:=h1 he;have hh2:=h2 om;rw [f₆] at hh2;split at h
 ·rename_i hk;rw [if_pos hk];exact⟨dm,dm,⟨dm,dm, .inl ⟨rfl,rfl,dm⟩⟩,sm⟩
 ·rename_i hk;rw [if_neg hk];split at h
  ·cases h
  ·rename_i hv;rw [if_neg hv];have hl:((b.drop (n + k)).take v).length=v:=by rw [f₃,f₆];omega
   exact⟨dm,dm,⟨dm,dm, .inr ⟨rfl,rfl,dm⟩⟩,dm⟩
def fP:Nat→List UInt8→Nat→List eE→List eE×Nat×Nat
 | _,[],_,acc=>(acc,0,0)
 | 0,_ :: _,at_,_=>([],at_,3)
 | k + 1,x :: b,at_,acc=>match fF (x :: b) with
  | (f,n,e)=>if e≠0 then([],at_,e) else fP k ((x :: b).drop n) (at_ + n) (acc ++ [f])
def aC (b:List UInt8):List eE×Nat×Nat:=fP 1024 b 0 []
theorem jm: ∀(l:List eE) (k at_:Nat) (acc:List eE),(∀f∈l,iz f)→l.length≤k→fP k (aF l) at_ acc=(acc ++ l,0,0)
 | [],k,at_,acc,_,_=>by
  have:aF [] = [] :=rfl
  rw [this,d₉]
  cases k <;> rfl
 | f :: l,k + 1,at_,acc,h,hk=>by
  have h1:aF (f :: l)=aV f ++ aF l:=by simp [aF]
  have h0:1≤(aV f).length:=by
   unfold aV
   have hf:=h f sm
   have:=(dF (n:=f.num * 8 + f.kind) (by unfold iz at hf;omega)).1
   rw [a₇];omega
  have hone:=EK (h f sm) (aF l)
  rw [h1]
  generalize hx:aV f ++ aF l=x at *
  cases x with
  | nil=>have:=congrArg List.length hx;simp at this;simp [this.1] at h0
  | cons y b=>
   rw [fP,hone]
   dsimp only
   rw [if_neg sm,← hx,e₀,jm l k _ _ (fun g hg=>h g (by simp [hg])) (by simpa using hk),c₁]
   rfl
end
section
variable {G:GS}
theorem JY (m:Nat):IntKind.u8.wrap (m:Int)=((UInt8.ofNat m).toNat:Int):=by
 rw [w8,UInt8.toNat_ofNat'];exact(d₄ _ 256).symm
theorem Hf {p:UInt8→Prop} (h: ∀n:Fin 256,p (UInt8.ofNat n.val)) (x:UInt8):p x:=by
 have:=h ⟨x.toNat,x.toNat_lt⟩
 rwa [UInt8.ofNat_toNat] at this
theorem EL (x:UInt8):x ||| 128=UInt8.ofNat (x.toNat % 128 + 128):=Hf (p:=fun x=>x ||| 128=UInt8.ofNat (x.toNat % 128 + 128)) (by decide +kernel) x
theorem Ps (x y:UInt8):IntKind.u8.wrap ((BitVec.ofInt IntKind.u8.bits (x.toNat:Int) ||| BitVec.ofInt IntKind.u8.bits (y.toNat:Int)).toNat:Int)=((x ||| y).toNat:Int):=by
 have h:=t8 (x ||| y);rw [BitVec.toNat_or,eU _ _ (t8 x),eU _ _ (t8 y),← UInt8.toNat_or,w8];omega
theorem OU (x y:UInt8):IntKind.u8.wrap ((BitVec.ofInt IntKind.u8.bits (x.toNat:Int) &&& BitVec.ofInt IntKind.u8.bits (y.toNat:Int)).toNat:Int)=((x &&& y).toNat:Int):=by
 have h:=t8 (x &&& y);rw [BitVec.toNat_and,eU _ _ (t8 x),eU _ _ (t8 y),← UInt8.toNat_and,w8];omega
theorem Lu (m:Nat):IntKind.u8.wrap ((BitVec.ofInt IntKind.u8.bits ((UInt8.ofNat m).toNat:Int) ||| BitVec.ofInt IntKind.u8.bits (128:Int)).toNat:Int)=((UInt8.ofNat (m % 128 + 128)).toNat:Int):=by
 have h:=Ps (UInt8.ofNat m) 128;rw [EL] at h;rw [show (UInt8.ofNat m).toNat % 128 + 128=m % 128 + 128 by rw [UInt8.toNat_ofNat'];omega] at h;exact h
theorem Hg (m:Nat):((m:Int).fdiv (2 ^ (min (7:Int).toNat IntKind.u64.bits)))=((m / 128:Nat):Int):=by
 rw [show min (7:Int).toNat IntKind.u64.bits=7 by rfl,d₂ _ (by decide)];exact(f₅ m 128).symm
theorem zM {p:List UInt8} {m n:Nat} (h:p ++ cX m=cX n) (hm: ¬ m < 128):(p ++ [UInt8.ofNat (m % 128 + 128)]) ++ cX (m / 128)=cX n:=by
 rw [sD hm] at h;rw [← h,c₁];rfl
def jn (l:List UInt8):VM:= [(0,⟨5,1,true,0,u8s l⟩)]
theorem bP: ∀(b:List UInt8),aY (u8s b) 1=true
 | [] =>rfl
 | _ :: _=>rfl
theorem CR {p:List UInt8} {m n:Nat} (h:p ++ cX m=cX n) (hn:n < 18446744073709551616):p.length≤10:=by
 have:=(dF hn).2;rw [← h,a₇] at this;omega
theorem zN (b:List UInt8) (n:Nat) (hb:b.length < 500000000) (hn:n < 18446744073709551616) :
  aQ Tryz.prog G 238 [.sl b.length (u8s b), .int .u64 n] [] 0 (.ms 0 1 0 (b.length + (cX n).length)) (jn (b ++ cX n)) 1:=by
 unfold jn
 refine dw seat Tryz.func238 24 ?_
 refine aa ?_
 refine aL rfl rfl (by intro R hR;refine cI hR ?_;refine c₀ (bP b) ?_;refine c₀ ⟨pf,ai (by kernel_rfl) pf⟩ ?_;refine⟨u8s b,sv pf,b.length,sv pf,?_⟩;exact hR) rfl ?_
 refine aa ?_
 refine av (List UInt8×Nat) (fun x=> [(5, .ms 0 1 0 (b.length + x.1.length)),(1, .int .u64 x.2)]) (fun x=> [(0,⟨5,1,true,0,u8s (b ++ x.1)⟩)]) 1 (fun x=>x.1 ++ cX x.2=cX n∧x.2 < 18446744073709551616) (fun x=>x.2) ([],n) ⟨rfl,hn⟩ (by dsimp only;rw [g₂,d₉];exact(vm [(0,_)] [])) ?_
 rintro⟨p,m⟩ ⟨hp,hm1⟩
 try dsimp only
 dsimp only at hp hm1
 refine aa ?_
 refine ad rfl ?_ ?_ <;> intro h
 ·have hm: ¬ m < 128:=by have:=ot h;omega
  have h2:=zM hp hm
  have l2:=CR hp hn
  (have fct:=aU.mk (JY m);have fct:=aU.mk (Lu m);have fct:=aU.mk (Hg m);refine aa ?_)
  refine aL rfl rfl (by intro R hR;refine cI hR ?_;(refine c₀ (b₄ _) ?_;refine⟨_,rfl,?_⟩;refine c₀ ⟨(by simp [u8s]),ai (by kernel_rfl) pf⟩ ?_;refine⟨u8s (b ++ (p ++ [UInt8.ofNat (m % 128 + 128)])),sv (by simp [u8s,cutL,setL,repM]),b.length + (p.length + 1),sv pf,?_⟩);exact hR) rfl ?_
  (have fct:=aU.mk (Hg m);refine aa ?_)
  exact⟨(p ++ [UInt8.ofNat (m % 128 + 128)],m / 128),⟨h2,dm⟩,dm,by dsimp only;rw [a₇,d₁];exact(vm [(0,_)] [])⟩
 ·have hm:m < 128:=by have:=oF h;omega
  have l2:=CR hp hn
  rw [na hm] at hp
  have l3:(cX n).length=p.length + 1:=by rw [← hp];simp
  (have fct:=aU.mk (JY m);refine aa ?_)
  refine aL rfl rfl (by intro R hR;refine cI hR ?_;(refine c₀ (b₄ _) ?_;refine⟨_,rfl,?_⟩;refine c₀ ⟨(by simp [u8s]),ai (by kernel_rfl) pf⟩ ?_;refine⟨u8s (b ++ cX n),sv (by rw [← hp];simp [u8s,cutL,setL,repM]),b.length + (cX n).length,sv pf,?_⟩);exact hR) rfl ?_
  refine aa ?_
  exact eb [_] [(0,7)] []
theorem EM (b:List UInt8) (n:Nat) (hb:b.length < 500000000) (hn:n < 18446744073709551616) :
  aQ Tryz.prog G 210 [.sl b.length (u8s b), .int .u64 n] [] 0 (.ms 0 1 0 (b.length + (cX n).length)) (jn (b ++ cX n)) 1:=by
 unfold jn
 refine dw seat Tryz.func210 23 ?_
 refine aa ?_
 refine aL rfl rfl (by intro R hR;refine cI hR ?_;refine c₀ (bP b) ?_;refine c₀ (pD (by kernel_rfl) om) ?_;exact hR) rfl ?_
 refine aa ?_
 refine av (List UInt8×Nat) (fun x=> [(5, .ms 0 1 0 (b.length + x.1.length)),(1, .int .u64 x.2)]) (fun x=> [(0,⟨5,1,true,0,u8s (b ++ x.1)⟩)]) 1 (fun x=>x.1 ++ cX x.2=cX n∧x.2 < 18446744073709551616) (fun x=>x.2) ([],n) ⟨rfl,hn⟩ (by dsimp only;rw [g₂,d₉];exact(vm [(0,_)] [])) ?_
 rintro⟨p,m⟩ ⟨hp,hm1⟩
 try dsimp only
 dsimp only at hp hm1
 refine aa ?_
 refine ad rfl ?_ ?_ <;> intro h
 ·have hm: ¬ m < 128:=by have:=ot h;omega
  have h2:=zM hp hm
  have l2:=CR hp hn
  (have fct:=aU.mk (JY m);have fct:=aU.mk (Lu m);have fct:=aU.mk (Hg m);refine aa ?_)
  refine aL rfl rfl (by intro R hR;refine cI hR ?_;(refine c₀ (b₄ _) ?_;refine⟨_,rfl,?_⟩;refine c₀ ⟨(by simp [u8s]),ai (by kernel_rfl) pf⟩ ?_;refine⟨u8s (b ++ (p ++ [UInt8.ofNat (m % 128 + 128)])),sv (by simp [u8s,cutL,setL,repM]),b.length + (p.length + 1),sv pf,?_⟩);exact hR) rfl ?_
  (have fct:=aU.mk (Hg m);refine aa ?_)
  exact⟨(p ++ [UInt8.ofNat (m % 128 + 128)],m / 128),⟨h2,dm⟩,dm,by dsimp only;rw [a₇,d₁];exact(vm [(0,_)] [])⟩
 ·have hm:m < 128:=by have:=oF h;omega
  have l2:=CR hp hn
  rw [na hm] at hp
  have l3:(cX n).length=p.length + 1:=by rw [← hp];simp
  (have fct:=aU.mk (JY m);refine aa ?_)
  refine aL rfl rfl (by intro R hR;refine cI hR ?_;(refine c₀ (b₄ _) ?_;refine⟨_,rfl,?_⟩;refine c₀ ⟨(by simp [u8s]),ai (by kernel_rfl) pf⟩ ?_;refine⟨u8s (b ++ cX n),sv (by rw [← hp];simp [u8s,cutL,setL,repM]),b.length + (cX n).length,sv pf,?_⟩);exact hR) rfl ?_
  refine aa ?_
  exact eb [_] [(0,7)] []
end
section
variable {G:GS}
attribute [local irreducible] ak aB aD aI aN vC aW aw
theorem BH (x:UInt8):x &&& 127=UInt8.ofNat (x.toNat % 128):=Hf (p:=fun x=>x &&& 127=UInt8.ofNat (x.toNat % 128)) (by decide +kernel) x
theorem mf (x:UInt8):IntKind.u8.wrap ((BitVec.ofInt IntKind.u8.bits (x.toNat:Int) &&& BitVec.ofInt IntKind.u8.bits (127:Int)).toNat:Int)=((x.toNat % 128:Nat):Int):=by
 have h:=OU x 127;rw [BH,UInt8.toNat_ofNat',a₉ (show x.toNat % 128 < 2 ^ 8 by omega)] at h;exact h
theorem NN (i:Nat):2 ^ (7 * i)=128 ^ i:=by rw [Nat.pow_mul]
theorem CS {y i:Nat} (h:i≤8∧y < 128∨i=9∧y≤1):y * 128 ^ i + 128 ^ i≤18446744073709551616:=by
 rcases h with ⟨h1,h2⟩ | ⟨rfl,h2⟩
 ·have:128 ^ i≤128 ^ 8:=e₄ om h1;have h3:y * 128 ^ i≤127 * 128 ^ i:=a₈ _ om;omega
 ·omega
theorem zO {y i:Nat} (h:i≤8∧y < 128∨i=9∧y≤1):IntKind.u64.wrap ((y:Int) * 2 ^ (min (7 * (i:Int)).toNat IntKind.u64.bits))=((y * 128 ^ i:Nat):Int):=by
 have e:min (7 * (i:Int)).toNat IntKind.u64.bits=7 * i:=by simp [IntKind.bits];omega
 have hb:=CS h;have hp:0 < 128 ^ i:=Nat.pow_pos om;rw [e,wu64,show ((y:Int) * 2 ^ (7 * i))=((y * 128 ^ i:Nat):Int) by rw [← NN,g₁,d₈];rfl];omega
theorem Lv {n y i:Nat} (hn:n < 128 ^ i) (h:i≤8∧y < 128∨i=9∧y≤1):IntKind.u64.wrap ((BitVec.ofInt IntKind.u64.bits (n:Int) ||| BitVec.ofInt IntKind.u64.bits ((y * 128 ^ i:Nat):Int)).toNat:Int)=((n + y * 128 ^ i:Nat):Int):=by
 have hb:=CS h;have hp:0 < 128 ^ i:=Nat.pow_pos om;have e:n ||| y * 128 ^ i=n + y * 128 ^ i:=by
  rw [← NN] at hn ⊢;have:=Nat.shiftLeft_add_eq_or_of_lt hn y;rw [f₄] at this;rw [Nat.or_comm,← this,Nat.add_comm]
 rw [BitVec.toNat_or,eU _ _ (show n < 2 ^ IntKind.u64.bits by show n < 18446744073709551616;omega),eU _ _ (show y * 128 ^ i < 2 ^ IntKind.u64.bits by show _ < 18446744073709551616;omega),e,wu64];omega
def nL (x:Nat×Nat×Nat):MV:= .tup [.int .u64 x.1, .int .i64 x.2.1, .int .i64 x.2.2]
theorem BI {l:List UInt8} {k:Nat} (hk:k < l.length):bF (u8s l) l.length (k:Int)=some (.int .u8 l[k].toNat):=cO hk (by simp [u8s,hk])
theorem Hh (b:List UInt8) (hb:b.length < 4000000000):aE Tryz.prog G 251 [.sl b.length (u8s b)] (nL (readS b 0 0)):=by
  unfold nL;generalize hr:readS b 0 0=r at *;obtain⟨r1,r2,r3⟩:=r;dsimp only;refine bA seat Tryz.func251 53 ?_;refine aa ?_;refine av (Nat×Nat) (fun x=> [(0, .sl b.length (u8s b)),(5, .int .u64 x.2),(6, .int .i64 x.1)]) (fun _=> []) 0 (fun x=>x.1≤9∧x.1≤b.length∧x.2 < 128 ^ x.1∧readS (b.drop x.1) x.1 x.2=(r1,r2,r3)) (fun x=>b.length - x.1) (0,0) ⟨dm,dm,dm,by dsimp only;rw [List.drop_zero];exact hr⟩ (by dsimp only;exact(vm [] [])) ?_;rintro⟨i,n⟩ ⟨hi,hib,hn,hR⟩;try dsimp only
  dsimp only at hi hib hn hR;refine aa ?_;refine ad rfl ?_ ?_ <;> intro h
  · have hi':i=b.length:=by have:=ot h;omega
    rw [List.drop_eq_nil_of_le om,readS] at hR;simp only [b₇] at hR;obtain⟨rfl,rfl,rfl⟩:=hR;refine aa ?_;refine au ?_;rfl
  · have hi':i < b.length:=by have:=oF h;omega
    have hel:=BI hi';rw [List.drop_eq_getElem_cons hi',readS] at hR;generalize b[i] =x at *;have hx256:=x.toNat_lt;refine aa ?_;refine ag rfl rfl ?_ rfl ?_ <;> intro h
    · have h9:i=9:=by
        have:(i:Int)=9:=by simpa using h
        omega
      (have fct:=aj.mk (hel);refine aa ?_);refine ad rfl ?_ ?_ <;> intro h
      · have hx:=ot h;rw [if_pos om] at hR;simp only [b₇] at hR;obtain⟨rfl,rfl,rfl⟩:=hR;refine aa ?_;refine au ?_;rfl
      · have hx:=oF h;rw [if_neg om] at hR;refine aa ?_;refine ag rfl rfl ?_ rfl ?_ <;> intro h
        · have h0:=ot h;(have fct:=aj.mk (hel);refine aa ?_);refine ad rfl ?_ ?_ <;> intro h
          · have hx:x.toNat=0:=by simpa using h
            rw [if_pos om] at hR;simp only [b₇] at hR;obtain⟨rfl,rfl,rfl⟩:=hR;refine aa ?_;refine au ?_;rfl
          · have hx:x.toNat≠0:=by simpa using h
            rw [if_neg om] at hR;have hv:i≤8∧x.toNat % 128 < 128∨i=9∧x.toNat % 128≤1:=om;(have fct:=aU.mk (mf x);have fct:=aU.mk (zO hv);have fct:=aU.mk (Lv hn hv);have fct:=aj.mk (hel);refine aa ?_);refine ad rfl ?_ ?_ <;> intro h
            · have hx:=ot h;rw [if_pos om] at hR;simp only [b₇] at hR;obtain⟨rfl,rfl,rfl⟩:=hR;refine aa ?_;refine au ?_;rw [a₉ (show x.toNat < 128 by omega)];rfl
            · have hx:=oF h;rw [if_neg om] at hR;refine aa ?_;refine⟨(i + 1,n + x.toNat % 128 * 128 ^ i),⟨dm,dm,?_,?_⟩,by show b.length - (i + 1) < b.length - i;omega,(by dsimp only;exact(vm [] []))⟩
              · have h3:x.toNat % 128 * 128 ^ i≤127 * 128 ^ i:=a₈ _ om;dsimp only;rw [c₇];omega
              · dsimp only;rw [show x.toNat % 128=x.toNat - 128 by omega];exact hR
        · have h0: ¬ (0:Int) < i:=by simpa using h
          rw [if_neg om] at hR;have hv:i≤8∧x.toNat % 128 < 128∨i=9∧x.toNat % 128≤1:=om;(have fct:=aU.mk (mf x);have fct:=aU.mk (zO hv);have fct:=aU.mk (Lv hn hv);have fct:=aj.mk (hel);refine aa ?_);refine ad rfl ?_ ?_ <;> intro h
          · have hx:=ot h;rw [if_pos om] at hR;simp only [b₇] at hR;obtain⟨rfl,rfl,rfl⟩:=hR;refine aa ?_;refine au ?_;rw [a₉ (show x.toNat < 128 by omega)];rfl
          · have hx:=oF h;rw [if_neg om] at hR;refine aa ?_;refine⟨(i + 1,n + x.toNat % 128 * 128 ^ i),⟨dm,dm,?_,?_⟩,by show b.length - (i + 1) < b.length - i;omega,(by dsimp only;exact(vm [] []))⟩
            · have h3:x.toNat % 128 * 128 ^ i≤127 * 128 ^ i:=a₈ _ om;dsimp only;rw [c₇];omega
            · dsimp only;rw [show x.toNat % 128=x.toNat - 128 by omega];exact hR
    · have h9:i≠9:=by
        have: ¬ (i:Int)=9:=by simpa using h
        omega
      rw [if_neg om] at hR;refine aa ?_;refine ag rfl rfl ?_ rfl ?_ <;> intro h
      · have h0:=ot h;(have fct:=aj.mk (hel);refine aa ?_);refine ad rfl ?_ ?_ <;> intro h
        · have hx:x.toNat=0:=by simpa using h
          rw [if_pos om] at hR;simp only [b₇] at hR;obtain⟨rfl,rfl,rfl⟩:=hR;refine aa ?_;refine au ?_;rfl
        · have hx:x.toNat≠0:=by simpa using h
          rw [if_neg om] at hR;have hv:i≤8∧x.toNat % 128 < 128∨i=9∧x.toNat % 128≤1:=om;(have fct:=aU.mk (mf x);have fct:=aU.mk (zO hv);have fct:=aU.mk (Lv hn hv);have fct:=aj.mk (hel);refine aa ?_);refine ad rfl ?_ ?_ <;> intro h
          · have hx:=ot h;rw [if_pos om] at hR;simp only [b₇] at hR;obtain⟨rfl,rfl,rfl⟩:=hR;refine aa ?_;refine au ?_;rw [a₉ (show x.toNat < 128 by omega)];rfl
          · have hx:=oF h;rw [if_neg om] at hR;refine aa ?_;refine⟨(i + 1,n + x.toNat % 128 * 128 ^ i),⟨dm,dm,?_,?_⟩,by show b.length - (i + 1) < b.length - i;omega,(by dsimp only;exact(vm [] []))⟩
            · have h3:x.toNat % 128 * 128 ^ i≤127 * 128 ^ i:=a₈ _ om;dsimp only;rw [c₇];omega
            · dsimp only;rw [show x.toNat % 128=x.toNat - 128 by omega];exact hR
      · have h0: ¬ (0:Int) < i:=by simpa using h
        rw [if_neg om] at hR;have hv:i≤8∧x.toNat % 128 < 128∨i=9∧x.toNat % 128≤1:=om;(have fct:=aU.mk (mf x);have fct:=aU.mk (zO hv);have fct:=aU.mk (Lv hn hv);have fct:=aj.mk (hel);refine aa ?_);refine ad rfl ?_ ?_ <;> intro h
        · have hx:=ot h;rw [if_pos om] at hR;simp only [b₇] at hR;obtain⟨rfl,rfl,rfl⟩:=hR;refine aa ?_;refine au ?_;rw [a₉ (show x.toNat < 128 by omega)];rfl
        · have hx:=oF h;rw [if_neg om] at hR;refine aa ?_;refine⟨(i + 1,n + x.toNat % 128 * 128 ^ i),⟨dm,dm,?_,?_⟩,by show b.length - (i + 1) < b.length - i;omega,(by dsimp only;exact(vm [] []))⟩
          · have h3:x.toNat % 128 * 128 ^ i≤127 * 128 ^ i:=a₈ _ om;dsimp only;rw [c₇];omega
          · dsimp only;rw [show x.toNat % 128=x.toNat - 128 by omega];exact hR
end
end Go.Proofs.YtohikcplmbkmeaaGreatDoor
