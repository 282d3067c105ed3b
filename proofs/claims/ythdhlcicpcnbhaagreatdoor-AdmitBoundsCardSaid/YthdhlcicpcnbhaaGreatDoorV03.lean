/- Parts of a proof, one behind the other: M32, M24, M25, M26, M27, M28, M31, M33, M34, M35, KL, Seat, S0, S2, U32, K, A1. -/
import Derived.Test.YthdhlcicpcnbhaaGreatDoorV02
open Bool renaming and_eq_true → a₀,noConfusion → a₃,not_eq_true' → b₁,or_eq_true → b₃
open Nat renaming blt → a₄,beq → a₆,eq_of_beq_eq_true → a₉,mod_eq_of_lt → b₉,le_trans → c₂,le_refl → c₅,blt_eq → c₆,lt_or_ge → c₇,ble → c₈,le_of_ble_eq_true → d₁,mul_le_mul_right → d₃,sub_zero → d₅,pow_succ → d₆
open List renaming toArray → a₅,all_eq_true → a₇,mem_append → a₈,length_cons → b₀,mem_cons → b₂,length_append → b₄,mem_cons_self → b₅,mem_map → b₆,zipWith → b₇,pairwise_append → b₈,map_cons → c₀,getElem?_eq_some_iff → c₁,pairwise_cons → c₃,append_assoc → c₄,any_eq_true → c₉,drop_left → d₂,append → d₇,length_drop → e₀,mem_filter → e₁,mem_range → e₅
open Prod renaming ext → d₀
open Int renaming toNat_of_nonneg → d₄,natCast_emod → d₉,natCast_pow → e₄
open Option renaming getD_some → d₈,map_some → e₃
set_option maxRecDepth 20000
set_option maxHeartbeats 16000000
set_option linter.unusedVariables false
set_option linter.unusedSimpArgs false
namespace Go.Proofs.YthdhlcicpcnbhaaGreatDoor
open Go.RowKit
section
mutual
def numsV:MV→List Nat
 | .ptr c _ _ _ _=> [c]
 | .ms c _ _ _=> [c]
 | .mp c=> [c]
 | .st l=>numsVs l
 | .fn _ l=>numsVs l
 | .tup l=>numsVs l
 | .ifc _ v=>numsV v
 | _=> []
def numsVs:List MV→List Nat
 | [] => []
 | m :: l=>numsV m ++ numsVs l
end
def numsO (e:Nat→Option MV):List Operand→List Nat
 | [] => []
 | x :: l=>(match iU e x with | some v=>numsV v | none=> []) ++ numsO e l
section
variable {P:Program} {T:bh} {e:Nat→Option MV} {m m':FM} {cnt:Nat} {A:Type}
theorem iN {x:Operand} {k k':MV→aZ A} (h: ∀v,iU e x=some v→k' v=k v):rd e x k'=rd e x k:=by
 unfold rd;cases hx:iU e x with
 | none=>rfl
 | some v=>exact h v hx
theorem xM: ∀{l:List Operand} {k k':List MV→aZ A},(∀vs,l.map (iU e)=vs.map some→k' vs=k vs)→lJ e l k'=lJ e l k
 | [],_,_,h=>h [] rfl
 | x :: l,k,k',h=>by
  show rd e x _=rd e x _
  exact iN fun v hv=>xM fun vs hvs=>h (v :: vs) (by simp [hv,hvs])
theorem iA: ∀{l:List Operand} {vs:List MV},l.map (iU e)=vs.map some→numsO e l=numsVs vs
 | [],[],_=>rfl
 | x :: l,v :: vs,h=>by
  simp only [c₀,List.cons.injEq] at h
  simp only [numsO,numsVs,h.1,iA h.2]
 | [],_ :: _,h=>by simp at h
 | _ :: _,[],h=>by simp at h
theorem nZ: ∀(l r:List MV),numsVs (l ++ r)=numsVs l ++ numsVs r
 | [],r=>rfl
 | m :: l,r=>by simp [numsVs,nZ l r]
abbrev tn (m' m:FM) (S:List Nat):Prop:= ∀c∈S,m' c=m c
mutual
theorem DT: ∀{p:MV},tn m' m (numsV p)→cT m' p=cT m p
 | .ptr c es k fo path,h=>by simp only [cT,h c (by simp [numsV])]
 | .ms c es off n,h=>by simp only [cT,h c (by simp [numsV])]
 | .st l,h=>by simp only [cT];rw [oS (l:=l) h]
 | .fn f l,h=>by simp only [cT];rw [oS (l:=l) h]
 | .ifc t v,h=>by simp only [cT];rw [DT (p:=v) h]
 | .tup _,_=>rfl
 | .undef,_=>rfl
 | .mp _,_=>rfl
 | .mpv ..,_=>rfl
 | .int ..,_=>rfl
 | .bool ..,_=>rfl
 | .str ..,_=>rfl
 | .nilp,_=>rfl
 | .gp ..,_=>rfl
 | .ep ..,_=>rfl
 | .sl ..,_=>rfl
 | .nils,_=>rfl
 | .nilf,_=>rfl
 | .nili,_=>rfl
 | .arr ..,_=>rfl
theorem oS: ∀{l:List MV},tn m' m (numsVs l)→fJ m' l=fJ m l
 | [],_=>rfl
 | q :: l,h=>by
  simp only [fJ]
  rw [DT (p:=q) fun c hc=>h c (by simp [numsVs,hc]),oS (l:=l) fun c hc=>h c (by simp [numsVs,hc])]
end
theorem FE {t:TypeId} {p:MV} (h:tn m' m (numsV p)):gq T m' t p=gq T m t p:=by
 unfold gq;cases p with
 | ptr c es k fo path=>simp only [h c (by simp [numsV])]
 | _=>rfl
theorem Ce {t:TypeId} {p v:MV} (h:tn m' m (numsV p)):fG T m' t p v=fG T m t p v:=by
 unfold fG;cases p with
 | ptr c es k fo path=>simp only [h c (by simp [numsV])]
 | _=>rfl
theorem zH {t:TypeId} {p:MV} {lo hi:Option MV} (h:tn m' m (numsV p)):eN T m' t p lo hi=eN T m t p lo hi:=by
 unfold eN;split
 ·have hh:=h _ (b₅ ..);simp only [hh]
 ·rfl
theorem FF {s d:TypeId} {p:MV} (h:tn m' m (numsV p)):lO T m' s d p=lO T m s d p:=by
 unfold lO;split
 ·rfl
 ·rfl
 ·rfl
 ·have hh:=h _ (b₅ ..);simp only [hh]
 ·rfl
 ·rfl
theorem HP {es:Nat} {y:MV} {k:Bool→Nat→List MV→aZ (MV×Dl)} (h:tn m' m (numsV y)):oE m' es y k=oE m es y k:=by
 unfold oE;cases y with
 | ms c es off n=>simp only [h c (by simp [numsV])]
 | _=>rfl
theorem zI {ats:List TypeId} {x y:MV} (hx:tn m' m (numsV x)) (hy:tn m' m (numsV y)):fO P T m' cnt ats x y=fO P T m cnt ats x y:=by
 unfold fO;have hs: ∀es k,oE m' es y k=oE m es y k:=fun es k=>HP hy
 cases x with
 | ms c es off n=>simp only [hs,hx c (by simp [numsV])]
 | _=>simp only [hs]
theorem zJ {t:TypeId} {p k x:MV} (h:tn m' m (numsV p)):fP P m' t p k x=fP P m t p k x:=by
 unfold fP;split
 ·have hh:=h _ (b₅ ..);simp only [hh]
 ·rfl
theorem FG {p:MV} {b:Bool} (h:tn m' m (numsV p)):lF m' p b=lF m p b:=by
 unfold lF;split
 ·have hh:=h _ (b₅ ..);simp only [hh]
 ·rfl
theorem zK {t:TypeId} {p k:MV} {ok:Bool} (h:tn m' m (numsV p)):gr P T m' t p k ok=gr P T m t p k ok:=by
 unfold gr;split
 ·have hh:=h _ (b₅ ..);simp only [hh]
 ·rfl
theorem Cf {t:Option TypeId} {x:MV} (h:tn m' m (numsV x)):iK T m' t x=iK T m t x:=by
 unfold iK;generalize t.bind (bh.find T)=q;cases q with
 | none=>rfl
 | some d=>
  cases d with
  | slice e es=>
   cases x with
   | ms c es off n=>simp only [h c (by simp [numsV])]
   | _=>rfl
  | _=>rfl
theorem xN {b:Builtin} {ats:Array TypeId} {vs:List MV} (h:tn m' m (numsVs vs)):de P T m' cnt b ats vs=de P T m cnt b ats vs:=by
 cases b with
 | append=>
  unfold de
  match vs,h with
  | [x,y],h=>exact zI (fun c hc=>h c (by simp [numsVs,hc])) fun c hc=>h c (by simp [numsVs,hc])
  | [],_=>rfl
  | [_],_=>rfl
  | _ :: _ :: _ :: _,_=>rfl
 | clear=>
  unfold de
  match vs,h with
  | [x],h=>exact Cf fun c hc=>h c (by simp [numsVs,hc])
  | [],_=>rfl
  | _ :: _ :: _,_=>rfl
 | _=>rfl
theorem zL {is:List Nat} {vs:List MV} {c es off k:Nat} (h:is.zip vs= [(0, .ms c es off k)]):c∈numsVs vs:=by
 cases is with
 | nil=>simp at h
 | cons i is=>
  cases vs with
  | nil=>simp at h
  | cons v vs=>
   rw [List.zip_cons_cons] at h;injection h with h1 h2
   injection h1 with h1 h3
   subst h3;simp [numsVs,numsV]
theorem La {o:Oper} (h:tn m' m (numsO e o.op.operands.toList)):iI P T e m' cnt o=iI P T e m cnt o:=by
 obtain⟨dst,op,ty,pos,after,guard⟩:=o;replace h:tn m' m (numsO e op.operands.toList):=h;cases op with
 | load t x=>
  refine iN fun v hv=>FE fun c hc=>h c ?_
  simp [Op.operands,numsO,hv,hc]
 | slice t x lo hi mx=>
  cases mx with
  | some _=>rfl
  | none=>
  refine iN fun v hv=>?_
  have e1: ∀lo hi,eN T m' t v lo hi=eN T m t v lo hi:=fun lo hi=>zH fun c hc=>h c (by simp [Op.operands,numsO,hv,hc])
  simp only [e1]
 | store t x y=>
  refine iN fun v hv=>iN fun u _=>Ce fun c hc=>h c ?_
  simp [Op.operands,numsO,hv,hc]
 | mapUpdate t p k x=>
  refine iN fun v hv=>iN fun u _=>iN fun u2 _=>zJ fun c hc=>h c ?_
  simp [Op.operands,numsO,hv,hc]
 | next x b=>
  refine iN fun v hv=>FG fun c hc=>h c ?_
  simp [Op.operands,numsO,hv,hc]
 | lookup t p k ok=>
  refine iN fun v hv=>iN fun u _=>zK fun c hc=>h c ?_
  simp [Op.operands,numsO,hv,hc]
 | convert s d x=>
  refine iN fun v hv=>FF fun c hc=>h c ?_
  simp [Op.operands,numsO,hv,hc]
 | buildSlice t n parts=>
  refine xM fun vs hvs=>?_
  generalize hz:(parts.toList.map (·.1)).zip vs=zs;have e:(Op.buildSlice t n parts).operands.toList=parts.toList.map (·.2):=by simp [Op.operands]
  rw [e,iA hvs] at h
  show(match mU n zs with | some x=>_ | none=>_)=(match mU n zs with | some x=>_ | none=>_)
  split
  ·rename_i x hx;obtain⟨rfl,rfl⟩:=lS hx;have hc:x.1∈numsVs vs:=zL hz;unfold ef;simp only [h _ hc]
  ·rfl
 | call c=>
  obtain⟨callee,args,ats⟩:=c;cases callee with
  | builtin b=>
   refine xM fun vs hvs=>xN fun c hc=>h c ?_
   have e:(Op.call ⟨.builtin b,args,ats⟩).operands.toList=args.toList:=by simp [Op.operands,Call.operands]
   rw [e,iA hvs];exact hc
  | _=>rfl
 | _=>rfl
def dV (S:List Nat):Dl→Prop
 | .none=>True
 | .new _=>True
 | .upd c _=>c∈S
 | .mv c _=>c∈S
 | .bump l=> ∀x∈l,x.1∈S
theorem zM {t:TypeId} {p v:MV}:ak (dV (numsV p)) (fG T m t p v):=by
 unfold fG;split
 ·exact ak.bad
 ·split
  ·split
   ·exact ak.cond (ak.prf (ak.ask fun _=>ak.ask fun _=>ak.val fun _=>ak.ret (by simp [dV,numsV]))) ak.bad
   ·exact ak.bad
  ·exact ak.bad
theorem xO {t:TypeId} {p k x:MV}:ak (dV (numsV p)) (fP P m t p k x):=by
 unfold fP;split
 ·split
  ·split
   ·refine ak.cond (ak.prf (ak.ask fun _=>ak.ask fun r=>?_)) ak.bad;cases r <;> exact ak.val fun _=>ak.ret (by simp [dV,numsV])
   ·exact ak.bad
  ·exact ak.bad
 ·exact ak.bad
theorem Cg {p:MV} {b:Bool}:ak (dV (numsV p)) (lF m p b):=by
 unfold lF;split
 ·split
  ·split
   ·refine ak.ask fun _=>ak.val fun r=>?_
    rcases r with _ | ⟨_,_⟩
    ·exact ak.ret (by simp [dV,numsV])
    ·exact ak.ret (by simp [dV,numsV])
   ·exact ak.bad
  ·exact ak.bad
 ·exact ak.bad
theorem xP {ats:List TypeId} {x y:MV}:ak (dV (numsV x)) (fO P T m cnt ats x y):=by
 have src: ∀{es:Nat} {k:Bool→Nat→List MV→aZ (MV×Dl)},(∀fl n l,ak (dV (numsV x)) (k fl n l))→ak (dV (numsV x)) (oE m es y k):=by
  intro es k hk;unfold oE;split
  ·exact ak.prf (hk _ _ _)
  ·exact hk _ _ _
  ·split
   ·exact ak.cond (ak.prf (ak.val fun _=>hk _ _ _)) ak.bad
   ·exact ak.bad
  ·exact ak.bad
 unfold fO;split
 ·refine ak.cond ?_ ak.bad;split
  ·split
   ·refine ak.cond (ak.ask fun _=>src fun fl n l=>?_) ak.bad;split
    ·exact ak.prf (ak.cond (ak.ret trivial) ak.bad)
    ·split
     ·exact ak.cond (ak.prf (ak.val fun _=>ak.val fun _=>ak.ret (by simp [dV,numsV]))) ak.bad
     ·exact ak.bad
    ·exact ak.bad
   ·exact ak.bad
  ·exact ak.bad
 ·exact ak.bad
theorem zN {t:Option TypeId} {x:MV}:ak (dV (numsV x)) (iK T m t x):=by
 unfold iK;split
 ·split
  ·exact ak.cond (ak.prf (ak.val fun _=>ak.ret (by simp [dV,numsV]))) ak.bad
  ·exact ak.bad
 ·exact ak.bad
theorem dV.sub {S S':List Nat} {δ:Dl} (h:dV S δ) (hs: ∀c∈S,c∈S'):dV S' δ:=by
 cases δ with
 | none=>trivial
 | new=>trivial
 | upd c l=>exact hs c h
 | mv c b=>exact hs c h
 | bump l=>exact fun x hx=>hs _ (h x hx)
theorem lV: ∀{l:List Operand} {k:List MV→aZ A} {K:A→Prop},(lJ e l k).runP K→∃vs,l.map (iU e)=vs.map some∧(k vs).runP K
 | [],_,_,h=>⟨[],rfl,h⟩
 | x :: l,k,K,h=>by
  unfold lJ rd at h
  split at h
  ·rename_i v hv
   obtain⟨vs,h1,h2⟩:=lV (k:=fun r=>k (v :: r)) h
   exact⟨v :: vs,by simp [hv,h1],h2⟩
  ·exact h.elim
theorem zO {o:Oper} {r:MV} {δ:Dl} (h:(iI P T e m cnt o).runP fun x=>x=(r,δ)):dV (numsO e o.op.operands.toList) δ:=by
 have gen:c₈ (pU o) 1=true→dV (numsO e o.op.operands.toList) δ:=by
  intro hk;obtain⟨r',δ',h1,h2⟩:=DS P T e m cnt o _ h;injection h2 with h2 h3
  subst h3;generalize pU o=k at h1 hk
  match k,h1,hk with
  | 0,h1,_=>rw [show δ'= .none from h1];trivial
  | 1,h1,_=>obtain ⟨b,h1⟩:=(show ∃b,δ'= .new b from h1);rw [h1];trivial
  | _ + 2,_,hk=>simp at hk
 have fromRd: ∀{x:Operand} {k:MV→aZ (MV×Dl)} {S:List Nat},(∀v,iU e x=some v→ak (dV S) (k v))→(rd e x k).runP (fun x=>x=(r,δ))→dV S δ:=by
  intro x k S hk h;unfold rd at h;split at h
  ·rename_i v hv;obtain⟨r',δ',h1,h2⟩:=hk v hv _ h;injection h2 with h2 h3
   subst h3;exact h1
  ·exact h.elim
 obtain⟨dst,op,ty,pos,after,guard⟩:=o;cases op with
 | load t x=>
  refine fromRd (S:=numsO e [x]) (fun v hv=>(wm T m _ _).weak fun δ hδ=>?_) h;rw [hδ];trivial
 | convert s d x=>
  refine fromRd (S:=numsO e [x]) (fun v hv=>(wo T m _ _ _).weak fun δ hδ=>?_) h;rw [hδ];trivial
 | lookup t p k ok=>
  refine fromRd (S:=numsO e [p,k]) (fun v hv=>ak.rd fun _=>(ru P T m _ _ _ _).weak fun δ hδ=>?_) h;rw [hδ];trivial
 | next x b=>
  refine fromRd (S:=numsO e [x]) (fun v hv=>?_) h;intro K hK;obtain⟨r',δ',h1,h2⟩:=Cg K hK;exact⟨r',δ',h1.sub fun c hc=>by simp [numsO,hv,hc],h2⟩
 | mapUpdate t p k x=>
  refine fromRd (S:=numsO e [p,k,x]) (fun v hv=>?_) h;refine ak.rd fun u=>ak.rd fun u2=>?_
  intro K hK;obtain⟨r',δ',h1,h2⟩:=xO K hK;exact⟨r',δ',h1.sub fun c hc=>by simp [numsO,hv,hc],h2⟩
 | slice t x lo hi mx=>
  cases mx with
  | some _=>exact h.elim
  | none=>
  refine fromRd (fun v hv=>ak.rdo fun lo'=>ak.rdo fun hi'=>?_) h;unfold eN;split
  ·rename_i n e0 es c k0 k fo path hd;split
   ·split
    ·exact ak.cond (ak.ask fun _=>ak.val fun _=>ak.val fun _=>ak.ret fun y hy=>by
      simp at hy;subst hy;simp [Op.operands,numsO,hv,numsV]) ak.bad
    ·exact ak.bad
   ·exact ak.bad
  ·exact(tg T _ _ _ _).weak fun δ hδ=>by rw [hδ];trivial
 | buildSlice t n parts=>
  match n,gen,h with
  | 0,gen,_=>exact gen rfl
  | _ + 2,gen,_=>exact gen rfl
  | 1,_,h=>
   obtain⟨vs,h1,h2⟩:=lV h;generalize hz:(parts.toList.map (·.1)).zip vs=zs at h2;have e1:(Op.buildSlice t 1 parts).operands.toList=parts.toList.map (·.2):=by simp [Op.operands]
   show dV (numsO e (Op.buildSlice t 1 parts).operands.toList) δ
   rw [e1,iA h1];split at h2
   ·rename_i x hx;obtain⟨_,rfl⟩:=lS hx;have hc:x.1∈numsVs vs:=zL hz;have ho:ak (dV (numsVs vs)) (ef T m cnt t x.1 x.2.1 x.2.2.1 x.2.2.2):=by
     unfold ef
     repeat' split
     all_goals first | exact ak.bad | exact ak.cond (ak.prf (ak.val fun _=>ak.ret hc)) ak.bad
    obtain⟨r',δ',h3,h4⟩:=ho _ h2;injection h4 with h4 h5
    subst h5;exact h3
   ·obtain⟨r',δ',⟨b,h3⟩,h4⟩:=fQ T cnt _ _ _ _ h2;injection h4 with h4 h5
    subst h5;rw [h3];trivial
 | store t x y=>
  refine fromRd (S:=numsO e [x,y]) (fun v hv=>?_) h;refine ak.rd fun u=>?_
  intro K hK;obtain⟨r',δ',h1,h2⟩:=zM K hK;exact⟨r',δ',h1.sub fun c hc=>by simp [numsO,hv,hc],h2⟩
 | call c=>
  obtain⟨callee,args,ats⟩:=c;cases callee with
  | builtin b=>
   cases b with
   | append=>
    have e1:(Op.call ⟨.builtin .append,args,ats⟩).operands.toList=args.toList:=by simp [Op.operands,Call.operands]
    show dV (numsO e (Op.call ⟨.builtin .append,args,ats⟩).operands.toList) δ
    rw [e1];replace h:(lJ e args.toList fun vs=>de P T m cnt .append ats vs).runP fun x=>x=(r,δ):=h
    have key: ∀(l:List Operand) (k:List MV→aZ (MV×Dl)) (K:MV×Dl→Prop),(lJ e l k).runP K→∃vs,l.map (iU e)=vs.map some∧(k vs).runP K:=by
     intro l
     induction l with
     | nil=>intro k K h;exact⟨[],rfl,h⟩
     | cons x l ih=>
      intro k K h;unfold lJ rd at h;split at h
      ·rename_i v hv;obtain⟨vs,h1,h2⟩:=ih _ K h;exact⟨v :: vs,by simp [hv,h1],h2⟩
      ·exact h.elim
    obtain⟨vs,h1,h2⟩:=key _ _ _ h;rw [iA h1];unfold de at h2;simp only at h2;split at h2
    ·rename_i x y;obtain⟨r',δ',h3,h4⟩:=xP _ h2;injection h4 with h4 h5
     subst h5;exact h3.sub fun c hc=>by simp [numsVs,hc]
    ·exact h2.elim
   | clear=>
    have e1:(Op.call ⟨.builtin .clear,args,ats⟩).operands.toList=args.toList:=by simp [Op.operands,Call.operands]
    show dV (numsO e (Op.call ⟨.builtin .clear,args,ats⟩).operands.toList) δ
    rw [e1];replace h:(lJ e args.toList fun vs=>de P T m cnt .clear ats vs).runP fun x=>x=(r,δ):=h
    have key: ∀(l:List Operand) (k:List MV→aZ (MV×Dl)) (K:MV×Dl→Prop),(lJ e l k).runP K→∃vs,l.map (iU e)=vs.map some∧(k vs).runP K:=by
     intro l
     induction l with
     | nil=>intro k K h;exact⟨[],rfl,h⟩
     | cons x l ih=>
      intro k K h;unfold lJ rd at h;split at h
      ·rename_i v hv;obtain⟨vs,h1,h2⟩:=ih _ K h;exact⟨v :: vs,by simp [hv,h1],h2⟩
      ·exact h.elim
    obtain⟨vs,h1,h2⟩:=key _ _ _ h;rw [iA h1];unfold de at h2;simp only at h2;split at h2
    ·rename_i x;obtain⟨r',δ',h3,h4⟩:=zN _ h2;injection h4 with h4 h5
     subst h5;exact h3.sub fun c hc=>by simp [numsVs,hc]
    ·exact h2.elim
   | _=>exact gen rfl
  | _=>exact h.elim
 | _=>exact gen rfl
theorem HQ {S:List Nat} {δ:Dl} (h:dV S δ) {c:Nat} (hc:c ∉ S) (hn:c≠cnt):δ.appF cnt m c=m c:=by
 cases δ with
 | none=>rfl
 | new b=>exact aK _ _ hn
 | upd c' l=>
  show(match m c' with | some b=>aP m c' { b with l:=l } | none=>m) c=m c
  cases m c' with
  | none=>rfl
  | some b=>exact aK _ _ (by rintro rfl;exact hc h)
 | mv c' b=>
  show aP (iX m c') cnt b c=m c
  rw [aK _ _ hn];unfold iX;rw [if_neg (by rintro rfl;exact hc h)]
 | bump l=>
  show cN m l c=m c
  rw [bumpF_get];have h': ∀x∈l,x.1∈S:=h
  clear h;have:mxB l c=0:=by
   induction l with
   | nil=>rfl
   | cons x l ih=>
    obtain⟨k,n⟩:=x;have:k≠c:=by rintro rfl;exact hc (h' (k,n) sm)
    simp only [mxB,this,if_false];exact ih fun y hy=>h' y (by simp [hy])
  rw [this];cases m c with
  | none=>rfl
  | some b=>simp
theorem Lb {S:List Nat} {δ:Dl} (h:dV S δ) (ha: ∀c,c∈S∨c=cnt→m' c=m c) {c:Nat} (hc:c∈S∨c=cnt):δ.appF cnt m' c=δ.appF cnt m c:=by
 cases δ with
 | none=>exact ha c hc
 | new b=>
  show aP m' cnt b c=aP m cnt b c
  unfold aP;split
  ·rfl
  ·exact ha c hc
 | upd c' l=>
  show(match m' c' with | some b=>aP m' c' { b with l:=l } | none=>m') c=(match m c' with | some b=>aP m c' { b with l:=l } | none=>m) c
  rw [ha c' (.inl h)];cases m c' with
  | none=>exact ha c hc
  | some b=>
   show aP m' c' _ c=aP m c' _ c
   unfold aP;split
   ·rfl
   ·exact ha c hc
 | mv c' b=>
  show aP (iX m' c') cnt b c=aP (iX m c') cnt b c
  unfold aP iX;split
  ·rfl
  ·split
   ·rfl
   ·exact ha c hc
 | bump l=>
  show cN m' l c=cN m l c
  rw [bumpF_get,bumpF_get,ha c hc]
mutual
theorem zP: ∀{p:MV} {K:MV×List (Nat×Nat)→Prop},(cT m p).runP K→(cT m p).runP fun x=>K x∧∀z∈x.2,z.1∈numsV p
 | .ms c es off n,K,h=>by
  simp only [cT] at h ⊢
  split at h
  ·split at h
   ·obtain⟨a1,l,a2,h⟩:=h
    exact⟨a1,l,a2,h,fun z hz=>by simp at hz;subst hz;simp [numsV]⟩
   ·exact h.elim
  ·exact h.elim
 | .st l,K,h=>by simp only [cT] at h ⊢;exact cY (ka (aZ.bind_runP.1 h)) fun _ h=>h
 | .fn f l,K,h=>by simp only [cT] at h ⊢;exact cY (ka (aZ.bind_runP.1 h)) fun _ h=>h
 | .ifc t v,K,h=>by simp only [cT] at h ⊢;exact iv (zP (aZ.bind_runP.1 h)) fun _ h=>h
 | .ptr c es k fo path,K,h=>by
  simp only [cT] at h ⊢
  split at h
  ·rename_i b hb
   cases he:a₆ b.es es with
   | false=>rw [he] at h;exact h.elim
   | true=>
    rw [he] at h
    obtain⟨v,q1,h⟩:=h
    dsimp only at h
    cases hf:v.idFree with
    | false=>rw [hf] at h;exact h.elim
    | true=>rw [hf] at h;exact⟨v,q1,by simp only [hf];exact⟨h,fun z hz=>by simp at hz;subst hz;simp [numsV]⟩⟩
  ·exact h.elim
 | .tup _,K,h=>by simp only [cT] at h;exact h.elim
 | .undef,K,h=>by simp only [cT] at h;exact h.elim
 | .mp _,K,h=>by simp only [cT] at h;exact h.elim
 | .mpv ..,K,h=>by simp only [cT] at h;exact h.elim
 | .int ..,K,h=>by simp only [cT] at h ⊢;exact⟨h,fun _ hc=>nomatch hc⟩
 | .bool ..,K,h=>by simp only [cT] at h ⊢;exact⟨h,fun _ hc=>nomatch hc⟩
 | .str ..,K,h=>by simp only [cT] at h ⊢;exact⟨h,fun _ hc=>nomatch hc⟩
 | .nilp,K,h=>by simp only [cT] at h ⊢;exact⟨h,fun _ hc=>nomatch hc⟩
 | .gp ..,K,h=>by simp only [cT] at h ⊢;exact⟨h,fun _ hc=>nomatch hc⟩
 | .ep ..,K,h=>by simp only [cT] at h ⊢;exact⟨h,fun _ hc=>nomatch hc⟩
 | .sl ..,K,h=>by simp only [cT] at h ⊢;exact⟨h,fun _ hc=>nomatch hc⟩
 | .nils,K,h=>by simp only [cT] at h ⊢;exact⟨h,fun _ hc=>nomatch hc⟩
 | .nilf,K,h=>by simp only [cT] at h ⊢;exact⟨h,fun _ hc=>nomatch hc⟩
 | .nili,K,h=>by simp only [cT] at h ⊢;exact⟨h,fun _ hc=>nomatch hc⟩
 | .arr ..,K,h=>by simp only [cT] at h ⊢;exact⟨h,fun _ hc=>nomatch hc⟩
theorem ka: ∀{l:List MV} {K:List MV×List (Nat×Nat)→Prop},(fJ m l).runP K→(fJ m l).runP fun x=>K x∧∀z∈x.2,z.1∈numsVs l
 | [],K,h=>⟨h,fun _ hc=>nomatch hc⟩
 | q :: l,K,h=>by
  simp only [fJ] at h ⊢
  refine iv (zP (aZ.bind_runP.1 h)) fun x hx=>?_
  refine cY (ka (aZ.bind_runP.1 hx.1)) fun y hy=>⟨hy.1,fun c hc=>?_⟩
  rw [numsVs,a₈]
  rcases a₈.1 hc with hc | hc
  ·exact .inl (hx.2 c hc)
  ·exact .inr (hy.2 c hc)
end
theorem zQ {B:Type}: ∀{l:List Operand} {k:List MV→aZ A} {k':List MV→aZ B} {K:A→Prop} {K':B→Prop},(∀vs,l.map (iU e)=vs.map some→(k vs).runP K→(k' vs).runP K')→(lJ e l k).runP K→(lJ e l k').runP K'
 | [],_,_,_,_,hk,h=>hk [] rfl h
 | x :: l,k,k',K,K',hk,h=>by
  unfold lJ rd at h ⊢
  split at h
  ·rename_i v hv
   exact zQ (k:=fun r=>k (v :: r)) (k':=fun r=>k' (v :: r)) (fun vs hvs h=>hk (v :: vs) (by simp [hv,hvs]) h) h
  ·exact h.elim
section
variable {ents:List FuncId} {G:GS} {ops:Array Oper} {o:Oper} {n:Nat} {r:MV} {δ:Dl} {m1:FM}
theorem tp {c:Call} {f:Operand} (hf:c.callee= .value f):(Op.call c).operands.toList=f :: c.args.toList:=by simp [Op.operands,Call.operands,hf]
theorem FH (h:kT P T ents G o e m n r δ):dV (numsO e o.op.operands.toList) δ:=by
 unfold kT at h;split at h
 ·rename_i c hc;split at h
  ·rename_i f hf;rw [hc,tp hf];unfold gu rd at h;split at h
   ·rename_i v hv;obtain⟨vs,h1,h2⟩:=lV h;split at h2
    ·obtain⟨_,x,_,h4,h3⟩:=gN (ka (aZ.bind_runP.1 h2));obtain⟨_,_,rfl,_⟩:=h4;intro z hz;have:=h3 z hz;rw [nZ] at this;simp only [numsO,hv,numsV,iA h1,a₈] at this ⊢;exact this.symm
    ·exact h2.elim
   ·exact h.elim
  ·exact zO h
 ·exact zO h
theorem wq (h:nw P T ents G ops o e m n r δ):dV (numsO e o.op.operands.toList) δ:=by
 obtain⟨b,_,h2,h3⟩:=h;cases b with
 | false=>rw [(h3 rfl).2];trivial
 | true=>exact FH (h2 rfl)
theorem HR (ha:tn m1 m (numsO e o.op.operands.toList)):kT P T ents G o e m n r δ→kT P T ents G o e m1 n r δ:=by
 have hp:iI P T e m1 n o=iI P T e m n o:=La ha;unfold kT;split
 ·rename_i c hc;split
  ·rename_i f hf;rw [hc,tp hf] at ha;intro hr;unfold gu rd at hr ⊢;split at hr
   ·rename_i v hv;refine zQ (fun vs hvs h=>?_) hr;split at h
    ·rename_i f0 caps;have hag:tn m1 m (numsVs (vs ++ caps)):=fun c hc=>ha c (by
      rw [nZ] at hc;simp only [numsO,hv,numsV,iA hvs,a₈] at hc ⊢;exact hc.symm)
     show(fJ m1 (vs ++ caps)).runP _
     rw [oS hag];refine cY (ka (aZ.bind_runP.1 h)) fun x hx=>?_
     obtain⟨⟨p1,p2,p3,p4⟩,p5⟩:=hx;exact⟨p1,p2,p3,fun z hz=>by rw [hag z.1 (p5 z hz)];exact p4 z hz⟩
    ·exact h.elim
   ·exact hr.elim
  ·rw [hp];exact id
 ·rw [hp];exact id
theorem HT (ha:tn m1 m (numsO e o.op.operands.toList)):nw P T ents G ops o e m n r δ→nw P T ents G ops o e m1 n r δ:=by
 rintro⟨b,h1,h2,h3⟩;exact⟨b,h1,fun hb=>HR ha (h2 hb),h3⟩
end
end
end
section
theorem Ch (m:FM) (l l':List (Nat×Nat)):cN (cN m l) l'=cN (cN m l') l:=by
 funext c;rw [bumpF_get,bumpF_get,bumpF_get,bumpF_get];cases m c with
 | none=>rfl
 | some b=>simp [Nat.max_assoc,Nat.max_comm (mxB l c)]
theorem tq (m:FM) (l:List (Nat×Nat)):eO m (cN m l):=fun c b h=>⟨{ b with pe:=Nat.max b.pe (mxB l c) },by rw [bumpF_get,h];rfl,rfl,rfl,rfl,rfl⟩
theorem tr (m:FM) (l:List (Nat×Nat)):eO (cN m l) m:=fun c b h=>by
 rw [bumpF_get] at h;cases hb:m c with
 | none=>rw [hb] at h;cases h
 | some b'=>rw [hb] at h;injection h with h;subst h;exact⟨b',rfl,rfl,rfl,rfl,rfl⟩
theorem FI {m:FM} {j:Nat} (h:m j=none) (b:MB):eO m (aP m j b):=fun c b' hb=>by
 have:aP m j b c=some b':=by
  unfold aP;rw [if_neg]
  ·exact hb
  ·rintro rfl;rw [h] at hb;cases hb
 exact⟨b',this,rfl,rfl,rfl,rfl⟩
theorem FJ {m:FM} {j:Nat} {b:MB} {l:List (Nat×Nat)} (h:m j=none) (hl: ∀c∈l,m c.1≠none):cN (aP m j b) l=aP (cN m l) j b:=by
 have h0: ∀{l:List (Nat×Nat)},(∀c∈l,m c.1≠none)→mxB l j=0:=by
  intro l
  induction l with
  | nil=>intro _;rfl
  | cons x l ih=>
   intro hl;obtain⟨k,n⟩:=x;have:k≠j:=by rintro rfl;exact hl (k,n) sm h
   simp only [mxB,this,if_false];exact ih fun c hc=>hl c (by simp [hc])
 funext c;rw [bumpF_get];unfold aP;by_cases hc:c=j
 ·subst hc;simp [h0 hl]
 ·simp only [hc,if_false];rw [bumpF_get]
theorem wt {α:Type} {m:Nat→Option α} {i j:Nat} {a b:α} (h:i≠j):aP (aP m i a) j b=aP (aP m j b) i a:=by
 funext c;unfold aP;by_cases h1:c=i
 ·subst h1;simp [h]
 ·simp [h1]
section
variable (Pg:Program) (T:bh) (N:Nat) (ents:List FuncId) (G:GS)
def eT (e:Nat→Option MV) (f:Operand) (args:List Operand):aZ (FuncId×List MV):=
 rd e f fun fv=>lJ e args fun vs=>match fv with
  | .fn f0 caps=> .ret (f0,vs ++ caps)
  | _=> .bad
def vS (o:Oper) (n:Nat) (e:Nat→Option MV) (m:FM) (fp:List Nat) (r:MV) (m':FM):Prop:=match o.op with
 | .call c=>match c.callee with
  | .value f=>(eT e f c.args.toList).runP fun x=>ents.contains x.1=true∧∃M,VM.get M=m∧lT Pg G M n x.1 x.2 fp fun r' M'=>r'=r∧VM.get M'=m'
  | _=>False
 | _=>False
def HU (ops:Array Oper) (o:Oper) (n:Nat) (e:Nat→Option MV) (m:FM) (fp:List Nat) (r:MV) (m':FM):Prop:=
 ∃b,Cc ops o e=some b∧(b=true→vS Pg ents G o n e m fp r m')∧(b=false→r= .undef∧m'=m)
def cW (ops:Array Oper) (rf:Bool) (o:Oper) (n:Nat) (fp:List Nat) (e:Nat→Option MV) (m:FM) (e':Nat→Option MV) (m':FM):Prop:=
 ∃r,(∀d,o.dst=some d→d < N)∧e'=kU o.dst r e∧match rf with
  | false=> ∃δ,nw Pg T ents G ops o e m n r δ∧m'=δ.appF n m∧fp=numsO e o.op.operands.toList
  | true=>HU Pg ents G ops o n e m fp r m'
end
section
variable {Pg:Program} {T:bh} {N:Nat} {ents:List FuncId} {G:GS} {ops:Array Oper} {o x y:Oper} {e e1 e2 e':Nat→Option MV} {m m1 m2 m':FM} {M M2:VM} {i j n:Nat} {fp fx fy:List Nat} {rf rx ry:Bool} {r:MV}
theorem ib {d:Option Tmp} {r:MV} {e:Nat→Option MV} {l:List Tmp} (h: ∀t,d=some t→t ∉ l): ∀t∈l,kU d r e t=e t:=by
 intro t ht;cases d with
 | none=>rfl
 | some d=>
  show aP e d r t=e t
  unfold aP;rw [if_neg];rintro rfl;exact h _ rfl ht
theorem mW {d d':Option Tmp} {r r':MV} (h: ∀t,d=some t→d'≠some t):kU d r (kU d' r' e)=kU d' r' (kU d r e):=by
 cases d with
 | none=>rfl
 | some d=>
  cases d' with
  | none=>rfl
  | some d'=>exact wt fun hh=>h d rfl (by rw [hh])
theorem wu {t:Operand} (h: ∀t∈o.looksAt ops,e t=e' t) (ht:t∈o.op.operands.toList):iU e t=iU e' t:=HM fun s hs=>h s (by
 subst hs;unfold Oper.looksAt;refine a₈.2 (.inl ?_);rw [List.mem_filterMap];exact⟨_,ht,rfl⟩)
theorem oT (h: ∀t∈o.looksAt ops,e t=e' t):numsO e o.op.operands.toList=numsO e' o.op.operands.toList:=by
 have key: ∀l:List Operand,(∀x∈l,iU e x=iU e' x)→numsO e l=numsO e' l:=by
  intro l
  induction l with
  | nil=>intro _;rfl
  | cons x l ih=>intro h;simp only [numsO];rw [h x sm,ih fun y hy=>h y (by simp [hy])]
 exact key _ fun x hx=>wu h hx
theorem Nq (h: ∀t∈o.looksAt ops,e t=e' t):Cc ops o e=Cc ops o e':=by
 unfold Cc;split
 ·rfl
 ·rename_i j want hg;split
  ·rfl
  ·rename_i s hs;rw [h s (by
    unfold Oper.looksAt;rw [hg];simp [hs])]
theorem Lc (h: ∀t∈o.looksAt ops,e t=e' t):vS Pg ents G o n e m fp r m'→vS Pg ents G o n e' m fp r m':=by
 have hh: ∀x∈o.op.operands.toList,iU e x=iU e' x:=fun x hx=>wu h hx
 unfold vS;split
 ·rename_i c hc;split
  ·rename_i f hf;rw [hc,tp hf] at hh;have:eT e f c.args.toList=eT e' f c.args.toList:=by
    unfold eT;rw [cV (hh f sm)];congr 1;funext v;rw [nY fun x hx=>hh x (by simp [hx])]
   rw [this];exact id
  ·exact id
 ·exact id
theorem Ld (h: ∀t∈o.looksAt ops,e t=e' t):HU Pg ents G ops o n e m fp r m'→HU Pg ents G ops o n e' m fp r m':=by
 rintro⟨b,h1,h2,h3⟩;exact⟨b,by rw [← Nq h];exact h1,fun hb=>Lc h (h2 hb),h3⟩
theorem zR {l S:List Nat} (h:vK l S=true): ∀c∈l,c∈S:=by
 intro c hc;unfold vK at h;rw [a₇] at h;obtain⟨x,hx,he⟩:=c₉.1 (h c hc);rw [← a₉ he];exact hx
theorem jE: ∀(σ:List (Nat×Nat)) (M:VM) (x:Nat),x ∉ σ.map (·.2)→VM.get (iM M σ) x=VM.get M x
 | [],M,x,_=>rfl
 | (c,d) :: σ,M,x,h=>by
  simp only [c₀,b₂,not_or] at h
  show VM.get (iM (VM.del M d) σ) x=_
  rw [jE σ _ x h.2,VM.get_del]
  unfold iX
  rw [if_neg h.1]
theorem rz: ∀(σ:List (Nat×Nat)) (M:VM) (x:Nat),x∈σ.map (·.2)→VM.get (iM M σ) x=none:=by
 intro σ M x h;cases hx:VM.get (iM M σ) x with
 | none=>rfl
 | some b=>
  obtain⟨_,h2⟩:=lU σ M x b hx;obtain⟨⟨c,d⟩,h3,rfl⟩:=b₆.1 h;exact absurd h3 (h2 c)
theorem FK {bs:List (Nat×Nat)} {c:Nat} (h:c ∉ bs.map (·.1)):VM.get (VM.bump M bs) c=VM.get M c:=by
 rw [VM.get_bump,bumpF_get];have:mxB bs c=0:=by
  induction bs with
  | nil=>rfl
  | cons x l ih=>
   obtain⟨k,n⟩:=x;simp only [c₀,b₂,not_or] at h;simp only [mxB];rw [if_neg fun hh=>h.1 (Eq.symm hh)];exact ih h.2
 rw [this];cases VM.get M c with
 | none=>rfl
 | some b=>simp
theorem zS {bs:List (Nat×Nat)} {c:Nat} (h:VM.get M2 c=VM.get M c):VM.get (VM.bump M2 bs) c=VM.get (VM.bump M bs) c:=by
 rw [VM.get_bump,VM.get_bump,bumpF_get,bumpF_get,h]
theorem eh.loc {args vs:List MV} {M0:VM} {n0:Nat} {σ bs:List (Nat×Nat)} (h:eh 0 args M0 n0 vs M σ bs) (ha:tn (VM.get M2) (VM.get M) fp) (h1: ∀c∈σ.map (·.2),c∈fp) (h2: ∀c∈bs.map (·.1),c∈fp):eh 0 args M0 n0 vs M2 σ bs:=by
 obtain⟨q1,q2,q3,q4,q5⟩:=h;have hb:DJ M2 bs:=by
  clear q4 q5
  induction bs with
  | nil=>trivial
  | cons x l ih=>
   obtain⟨c,k⟩:=x;refine⟨?_,ih (fun c hc=>h2 c (by simp at hc ⊢;exact .inr hc)) q2.2⟩;rw [ha c (h2 c sm)];exact q2.1
 have hf:kP M2 bs=kP M bs:=by
  clear q2 q4 q5 hb
  induction bs with
  | nil=>rfl
  | cons x l ih=>
   obtain⟨c,k⟩:=x;funext d
   show(bif a₆ c d then(match VM.get M2 d with | some b=>some (b,k) | none=>none) else kP M2 l d)=(bif a₆ c d then(match VM.get M d with | some b=>some (b,k) | none=>none) else kP M l d)
   by_cases e:c=d
   ·subst e;rw [ha c (h2 c sm)];simp
   ·simp only [fT e,cond_false];rw [ih fun c hc=>h2 c (by simp at hc ⊢;exact .inr hc)]
 refine⟨q1,hb,q3,by rw [hf];exact q4,?_⟩;rw [hf];clear q3 q4
 induction M0 with
 | nil=>trivial
 | cons x M0 ih=>
  obtain⟨c,b'⟩:=x;refine⟨?_,ih q5.2⟩;rcases q5.1 with h | ⟨c0,b,s1,s2,s3⟩
  ·exact .inl h
  ·have hc0:c0∈fp:=h1 c0 (b₆.2 ⟨(c,c0),eP (show kQ σ c=some c0 from s1),rfl⟩);exact .inr ⟨c0,b,s1,by rw [zS (ha c0 hc0)];exact s2,s3⟩
theorem xQ {ρ:Nat→Nat} {x:Nat}: ∀{M1:VM},(∀z∈M1,ρ z.1≠x)→VM.get (jL ρ M1) x=none
 | [],_=>rfl
 | (c,b) :: M1,h=>by
  show VM.get ((ρ c,_) :: jL ρ M1) x=none
  rw [VM.get_cons,if_neg (h (c,b) sm)]
  exact xQ fun z hz=>h z (by simp [hz])
theorem OJ {σ:List (Nat×Nat)} {n0 n1:Nat} {M1:VM} {z:Nat×MB} (hk:wh σ n0 n1 M1=true) (htw:Ft n n0 n1 fp=true) (hz:z∈M1) (hd:kQ σ z.1=none) (ho: ¬ zw n fp (gO n0 n σ z.1)):False:=by
 unfold wh at hk;rw [a₀,a₇] at hk;have:=hk.2 z hz;simp only [hd,Option.isSome_none,Bool.false_or,a₀,b₃] at this;obtain⟨h1,h2⟩:=this;have h2:z.1 < n1:=by simpa [c₆] using h2
 rcases h1 with h1 | h1
 ·have h3:=a₉ h1;rw [h3] at hd ho;rw [nW hd] at ho;exact ho (.inl rfl)
 ·have h3:=a₉ h1;rw [h3] at hd ho h2;rw [nX hd] at ho;refine ho (.inr ⟨rfl,?_⟩);unfold Ft at htw;rw [b₃] at htw;rcases htw with h4 | h4
  ·have:=d₁ h4;omega
  ·obtain⟨x,hx,he⟩:=c₉.1 h4;rw [a₉ he];exact hx
theorem HV (h:vS Pg ents G o n e (VM.get M) fp r m') (ha:tn (VM.get M2) (VM.get M) fp):(∃M2',vS Pg ents G o n e (VM.get M2) fp r (VM.get M2')∧∀c,VM.get M2 c=VM.get M c→VM.get M2' c=m' c)∧∀c,c ∉ fp→c≠n→m' c=VM.get M c:=by
 unfold vS at h ⊢;split at h
 ·rename_i c hc;split at h
  ·rename_i f hf;have key: ∀{K:FuncId×List MV→Prop},(eT e f c.args.toList).runP K→∃x,K x∧∀K':FuncId×List MV→Prop,K' x→(eT e f c.args.toList).runP K':=by
    intro K hK;unfold eT at hK ⊢;obtain⟨a,h1,h2,h3⟩:=(af.rd fun fv=>af.rds fun vs=>by cases fv <;> first | exact af.ret _ | exact af.bad) K hK;exact⟨a,h2,h3⟩
   obtain⟨x,⟨hx,M',hM',args,M0,n0,res,M1,n1,hsem,σ,bs,hL,hin,hk,htw,s1,s2,rfl,rfl⟩,hback⟩:=key h;have hsub1:=zR s1;have hsub2:=zR s2;have ha':tn (VM.get M2) (VM.get M') fp:=fun c hc=>by rw [hM'];exact ha c hc
   have hin2:iy M2 σ=true:=by
    clear hL hk hsem h
    induction σ with
    | nil=>rfl
    | cons z σ ih=>
     obtain⟨p,q⟩:=z;have hin:((VM.get M' q).isSome && iy M' σ)=true:=hin
     show((VM.get M2 q).isSome && iy M2 σ)=true
     rw [a₀] at hin ⊢;rw [ha' q (hsub1 q sm)];refine⟨hin.1,ih hin.2 ?_ fun c hc=>hsub1 c (by simp at hc ⊢;exact .inr hc)⟩;unfold vK at s1 ⊢;simp only [c₀,List.all_cons,a₀] at s1;exact s1.2
   refine⟨⟨_,hback _ ⟨hx,M2,rfl,args,M0,n0,res,M1,n1,hsem,σ,bs,hL.loc ha' hsub1 hsub2,hin2,hk,htw,s1,s2,rfl,rfl⟩,fun c hc=>?_⟩,fun c hc hcn=>?_⟩
   ·rw [get_app,get_app];have:VM.get (iM (VM.bump M2 bs) σ) c=VM.get (iM (VM.bump M' bs) σ) c:=by
     by_cases hs:c∈σ.map (·.2)
     ·rw [rz _ _ _ hs,rz _ _ _ hs]
     ·rw [jE _ _ _ hs,jE _ _ _ hs,zS (by rw [hM'];exact hc)]
    rw [this]
   ·rw [get_app,xQ fun z hz=>?_]
    ·show VM.get (iM (VM.bump M' bs) σ) c=_
     rw [jE _ _ _ fun hs=>hc (hsub1 c hs),FK fun hs=>hc (hsub2 c hs),hM']
    ·cases hd:kQ σ z.1 with
     | none=>exact fun h=>OJ hk htw hz hd (h▸fun ho=>ho.elim (fun h=>hcn h) fun h=>hc h.2)
     | some d=>
      unfold gO;rw [hd];rintro rfl;exact hc (hsub1 _ (b₆.2 ⟨(z.1,d),eP hd,rfl⟩))
  ·exact h.elim
 ·exact h.elim
theorem Ci (h1:cW Pg T N ents G ops false x i fx e m e1 m1) (h2:cW Pg T N ents G ops false y j fy e1 m1 e2 m2) (ha:x.apart ops y=true) (hc:Qr (pU x) (pU y)=true) (hij:i≠j) (_hi:m i=none) (hj:m j=none) :
  ∃e' m',cW Pg T N ents G ops false y j fy e m e' m'∧cW Pg T N ents G ops false x i fx e' m' e2 m2:=by
 obtain⟨rx,dx,rfl,δx,ax,rfl,nx⟩:=h1
 obtain⟨ry,dy,rfl,δy,ay,rfl,ny⟩:=h2
 obtain⟨p1,p2,p3⟩:=Oper.apart_spec ha
 have ay':nw Pg T ents G ops y e (δx.appF i m) j ry δy:=tm (ib p1) ay
 have ex: ∀{m'},nw Pg T ents G ops x e m' i rx δx→nw Pg T ents G ops x (kU y.dst ry e) m' i rx δx:=tm fun t ht=>(ib p3 t ht).symm
 have hput:=mW (e:=e) (d:=y.dst) (d':=x.dst) (r:=ry) (r':=rx) fun t h h'=>p2 t h' h
 suffices h:nw Pg T ents G ops y e m j ry δy∧nw Pg T ents G ops x e (δy.appF j m) i rx δx∧δy.appF j (δx.appF i m)=δx.appF i (δy.appF j m) from
  ⟨_,_,⟨ry,dy,rfl,δy,h.1,rfl,ny.trans (oT (ib p1))⟩,⟨rx,dx,hput,δx,ex h.2.1,h.2.2,nx.trans (oT fun t ht=>(ib p3 t ht).symm)⟩⟩
 have ox:=tj ax
 have oy:=tj ay'
 match hx:pU x,hy:pU y,hc with
 | 0,_,_=>
  rw [hx] at ox
  obtain rfl:δx= .none:=ox
  exact⟨ay',gQ (by rw [hx];rfl) ax,rfl⟩
 | _ + 1,0,_=>
  rw [hy] at oy
  obtain rfl:δy= .none:=oy
  exact⟨gQ (by rw [hy];rfl) ay',ax,rfl⟩
 | 1,1,_=>
  rw [hx] at ox
  rw [hy] at oy
  refine⟨gQ (by rw [hy];rfl) ay',gQ (by rw [hx];rfl) ax,?_⟩
  rcases ox with rfl | ⟨b,rfl⟩
  ·rfl
  ·rcases oy with rfl | ⟨b',rfl⟩
   ·rfl
   ·exact wt hij
 | 2,1,_=>
  rw [hx] at ox
  rw [hy] at oy
  refine⟨gQ (by rw [hy];rfl) ay',?_,?_⟩
  ·rcases oy with rfl | ⟨b',rfl⟩
   ·exact ax
   ·exact j9 hx (FI hj _) ax
  ·rcases oy with rfl | ⟨b',rfl⟩
   ·rfl
   ·rcases ox with rfl | ⟨l,rfl,hl⟩
    ·rfl
    ·exact(FJ hj hl).symm
 | 2,2,_=>
  rw [hx] at ox
  rw [hy] at oy
  rcases ox with rfl | ⟨l,rfl,hl⟩
  ·rcases oy with rfl | ⟨l',rfl,hl'⟩
   ·exact⟨ay',ax,rfl⟩
   ·exact⟨ay',j9 hx (tq _ _) ax,rfl⟩
  ·rcases oy with rfl | ⟨l',rfl,hl'⟩
   ·exact⟨j9 hy (tr _ _) ay',ax,rfl⟩
   ·exact⟨j9 hy (tr _ _) ay',j9 hx (tq _ _) ax,Ch _ _ _⟩
 | 1,_ + 2,h=>cases h
 | 2,_ + 3,h=>cases h
 | _ + 3,_ + 1,h=>cases h
theorem zT (h:HU Pg ents G ops o n e (VM.get M) fp r m') (ha:tn (VM.get M2) (VM.get M) fp):(∃M2',HU Pg ents G ops o n e (VM.get M2) fp r (VM.get M2')∧∀c,VM.get M2 c=VM.get M c→VM.get M2' c=m' c)∧∀c,c ∉ fp→c≠n→m' c=VM.get M c:=by
 obtain⟨b,h1,h2,h3⟩:=h;cases b with
 | true=>
  obtain⟨⟨M2',p1,p2⟩,p3⟩:=HV (h2 rfl) ha;exact⟨⟨M2',⟨true,h1,fun _=>p1,fun h=>nomatch h⟩,p2⟩,p3⟩
 | false=>
  obtain⟨rfl,rfl⟩:=h3 rfl;exact⟨⟨M2,⟨false,h1,fun h=>(nomatch h),fun _=>⟨rfl,rfl⟩⟩,fun _ hc=>hc⟩,fun _ _ _=>rfl⟩
theorem kc (h:cW Pg T N ents G ops rf o n fp e (VM.get M) e1 m1) (he: ∀t∈o.looksAt ops,e t=e' t) (ha: ∀c,c∈fp∨c=n→VM.get M2 c=VM.get M c) :
  ∃r,e1=kU o.dst r e∧(∃M2',cW Pg T N ents G ops rf o n fp e' (VM.get M2) (kU o.dst r e') (VM.get M2')∧∀c,c∈fp∨c=n→VM.get M2' c=m1 c):=by
 obtain⟨r,hd,rfl,h⟩:=h
 refine⟨r,rfl,?_⟩
 cases rf with
 | false=>
  obtain⟨δ,h1,rfl,rfl⟩:=h
  have hf:=wq h1
  refine⟨δ.app n M2,⟨r,hd,rfl,δ,HT (fun c hc=>ha c (.inl (by rw [oT he];exact hc))) (tm he h1),Dl.get_app _ _ _,(oT he)⟩,fun c hc=>?_⟩
  rw [Dl.get_app]
  exact Lb hf ha hc
 | true=>
  obtain⟨⟨M2',p1,p2⟩,p3⟩:=zT h (M2:=M2) fun c hc=>ha c (.inl hc)
  exact⟨M2',⟨r,hd,rfl,Ld he p1⟩,fun c hc=>p2 c (ha c hc)⟩
theorem eU (h:cW Pg T N ents G ops rf o n fp e (VM.get M) e1 m1) {c:Nat} (h1:c ∉ fp) (h2:c≠n):m1 c=VM.get M c:=by
 obtain⟨r,hd,rfl,h⟩:=h;cases rf with
 | false=>
  obtain⟨δ,h3,rfl,rfl⟩:=h;exact HQ (wq h3) h1 h2
 | true=>exact (zT h (M2:=M) fun _ _=>rfl).2 c h1 h2
theorem xR (h:cW Pg T N ents G ops rf o n fp e (VM.get M) e1 m1): ∃M',VM.get M'=m1:=by
 obtain⟨r,hd,rfl,h⟩:=h;cases rf with
 | false=>obtain ⟨δ,_,rfl,_⟩:=h;exact⟨δ.app n M,Dl.get_app _ _ _⟩
 | true=>
  obtain⟨b,h1,h2,h3⟩:=h;cases b with
  | false=>exact ⟨M,(h3 rfl).2.symm⟩
  | true=>
   have h:=h2 rfl;unfold vS at h;split at h
   ·split at h
    ·unfold eT rd at h;split at h
     ·obtain⟨vs,_,h⟩:=lV h;split at h
      ·obtain⟨_,M0,_,args,M0',n0,res,M1,n1,_,σ,bs,_,_,_,_,_,_,_,hm⟩:=h;exact⟨_,hm⟩
      ·exact h.elim
     ·exact h.elim
    ·exact h.elim
   ·exact h.elim
def Le (a b:List Nat):Bool:=a.all fun x=>b.all fun y=> !a₆ x y
theorem HW {a b:List Nat} (h:Le a b=true): ∀c,c∈a→c ∉ b:=by
 intro c ha hb;unfold Le at h;rw [a₇] at h;have:=h c ha;rw [a₇] at this;simpa using this c hb
theorem Cj (h1:cW Pg T N ents G ops rx x i fx e (VM.get M) e1 m1) (h2:cW Pg T N ents G ops ry y j fy e1 m1 e2 m2) (ha:x.apart ops y=true) (hd:Le (i :: fx) (j :: fy)=true) :
  ∃e' m',cW Pg T N ents G ops ry y j fy e (VM.get M) e' m'∧cW Pg T N ents G ops rx x i fx e' m' e2 m2:=by
 obtain⟨p1,p2,p3⟩:=Oper.apart_spec ha
 have hdis:=HW hd
 have cy: ∀{c},(c∈fx∨c=i)→c ∉ fy∧c≠j:=fun {c} hc=>by
  have:=hdis c (by rcases hc with h | h <;> simp [h])
  simp only [b₂,not_or] at this
  exact⟨this.2,this.1⟩
 have cx: ∀{c},(c∈fy∨c=j)→c ∉ fx∧c≠i:=fun {c} hc=>by
  refine⟨fun h=>?_,fun h=>?_⟩
  ·obtain⟨q1,q2⟩:=cy (.inl h)
   exact hc.elim q1 q2
  ·obtain⟨q1,q2⟩:=cy (.inr h)
   exact hc.elim q1 q2
 obtain⟨M1,rfl⟩:=xR h1
 obtain⟨rvx,hdx,he1,h1b⟩:=h1
 have h1':cW Pg T N ents G ops rx x i fx e (VM.get M) e1 (VM.get M1):=⟨rvx,hdx,he1,h1b⟩
 subst he1
 obtain⟨rvy,rfl,M',q1,q2⟩:=kc (e':=e) (M2:=M) h2 (ib p1) fun c hc=>(eU h1' (cx hc).1 (cx hc).2).symm
 obtain⟨rvx',hx',M'',q3,q4⟩:=kc (e':=kU y.dst rvy e) (M2:=M') h1' (fun t ht=>(ib p3 t ht).symm) fun c hc=>eU q1 (cy hc).1 (cy hc).2
 have hput:=mW (e:=e) (d:=y.dst) (d':=x.dst) (r:=rvy) (r':=rvx) fun t h h'=>p2 t h' h
 refine⟨_,_,q1,?_⟩
 have hm:VM.get M''=m2:=by
  funext c
  by_cases c1:c∈fx∨c=i
  ·rw [q4 c c1,eU h2 (cy c1).1 (cy c1).2]
  ·have c1':c ∉ fx∧c≠i:=⟨fun h=>c1 (.inl h),fun h=>c1 (.inr h)⟩
   rw [eU q3 c1'.1 c1'.2]
   by_cases c2:c∈fy∨c=j
   ·exact q2 c c2
   ·have c2':c ∉ fy∧c≠j:=⟨fun h=>c2 (.inl h),fun h=>c2 (.inr h)⟩
    rw [eU q1 c2'.1 c2'.2,eU h2 c2'.1 c2'.2,eU h1' c1'.1 c1'.2]
 rw [hm] at q3
 obtain⟨r3,hd3,he3,hb3⟩:=q3
 refine⟨r3,hd3,?_,hb3⟩
 rw [hput]
 rw [← he3]
 cases hxd:x.dst with
 | none=>rfl
 | some d=>
  rw [hxd] at hx'
  have:rvx=rvx':=by
   have:=congrFun hx' d
   simpa [kU,aP] using this
  rw [this]
theorem mX (hk:pU y=0) (h:cW Pg T N ents G ops false y j fy e m e2 m2):m2=m∧∀m',cW Pg T N ents G ops false y j fy e m' e2 m':=by
 obtain⟨r,hd,rfl,δ,h3,rfl,hfp⟩:=h;have ho:=tj h3;rw [hk] at ho;obtain rfl:δ= .none:=ho;exact⟨rfl,fun m'=>⟨r,hd,rfl, .none,gQ (by rw [hk];rfl) h3,rfl,hfp⟩⟩
theorem Ck (h1:cW Pg T N ents G ops rx x i fx e (VM.get M) e1 m1) (h2:cW Pg T N ents G ops false y j fy e1 m1 e2 m2) (ha:x.apart ops y=true) (hk:pU y=0) :
  ∃e' m',cW Pg T N ents G ops false y j fy e (VM.get M) e' m'∧cW Pg T N ents G ops rx x i fx e' m' e2 m2:=by
 obtain⟨p1,p2,p3⟩:=Oper.apart_spec ha
 obtain⟨rfl,hp⟩:=mX hk h2
 obtain⟨rvx,hdx,he1,h1b⟩:=h1
 have h1':cW Pg T N ents G ops rx x i fx e (VM.get M) e1 m2:=⟨rvx,hdx,he1,h1b⟩
 subst he1
 obtain⟨rvy,rfl,M',q1,_⟩:=kc (e':=e) (M2:=M) (hp (VM.get M)) (ib p1) fun _ _=>rfl
 obtain⟨hM',_⟩:=mX hk q1
 obtain⟨rvx',hx',M'',q3,q4⟩:=kc (e':=kU y.dst rvy e) (M2:=M) h1' (fun t ht=>(ib p3 t ht).symm) fun _ _=>rfl
 have hput:=mW (e:=e) (d:=y.dst) (d':=x.dst) (r:=rvy) (r':=rvx) fun t h h'=>p2 t h' h
 have hm:VM.get M''=m2:=by
  funext c
  by_cases c1:c∈fx∨c=i
  ·exact q4 c c1
  ·have c1':c ∉ fx∧c≠i:=⟨fun h=>c1 (.inl h),fun h=>c1 (.inr h)⟩
   rw [eU q3 c1'.1 c1'.2,eU h1' c1'.1 c1'.2]
 rw [hM'] at q1
 refine⟨_,_,q1,?_⟩
 rw [hm] at q3
 obtain⟨r3,hd3,he3,hb3⟩:=q3
 refine⟨r3,hd3,?_,hb3⟩
 rw [hput,← he3]
 cases hxd:x.dst with
 | none=>rfl
 | some d=>
  rw [hxd] at hx'
  have:rvx=rvx':=by
   have:=congrFun hx' d
   simpa [kU,aP] using this
  rw [this]
theorem Cl (h1:cW Pg T N ents G ops false x i fx e (VM.get M) e1 m1) (h2:cW Pg T N ents G ops ry y j fy e1 m1 e2 m2) (ha:x.apart ops y=true) (hk:pU x=0) :
  ∃e' m',cW Pg T N ents G ops ry y j fy e (VM.get M) e' m'∧cW Pg T N ents G ops false x i fx e' m' e2 m2:=by
 obtain⟨p1,p2,p3⟩:=Oper.apart_spec ha
 obtain⟨rfl,hp⟩:=mX hk h1
 obtain⟨rvx,hdx,he1,h1b⟩:=h1
 have h1':cW Pg T N ents G ops false x i fx e (VM.get M) e1 (VM.get M):=⟨rvx,hdx,he1,h1b⟩
 subst he1
 obtain⟨rvy,rfl,M',q1,q2⟩:=kc (e':=e) (M2:=M) h2 (ib p1) fun _ _=>rfl
 obtain⟨rvx',hx',M'',q3,_⟩:=kc (e':=kU y.dst rvy e) (M2:=M) h1' (fun t ht=>(ib p3 t ht).symm) fun _ _=>rfl
 obtain⟨hM'',q5⟩:=mX hk q3
 have hput:=mW (e:=e) (d:=y.dst) (d':=x.dst) (r:=rvy) (r':=rvx) fun t h h'=>p2 t h' h
 have hm:VM.get M'=m2:=by
  funext c
  by_cases c1:c∈fy∨c=j
  ·exact q2 c c1
  ·have c1':c ∉ fy∧c≠j:=⟨fun h=>c1 (.inl h),fun h=>c1 (.inr h)⟩
   rw [eU q1 c1'.1 c1'.2,eU h2 c1'.1 c1'.2]
 rw [hm] at q1
 refine⟨_,_,q1,?_⟩
 obtain⟨r3,hd3,he3,hb3⟩:=q5 m2
 refine⟨r3,hd3,?_,hb3⟩
 rw [hput,← he3]
 cases hxd:x.dst with
 | none=>rfl
 | some d=>
  rw [hxd] at hx'
  have:rvx=rvx':=by
   have:=congrFun hx' d
   simpa [kU,aP] using this
  rw [this]
end
end
section
structure ke (N:Nat) (w0:World) (ex0:Fo) (P0:bE) (e:Nat→Option MV) (m:FM) (F:Nat→Prop) (a:Act) (w:World):Prop where
 ex: ∃P adr,aU w P adr m∧fX w P adr e a∧(∀c,F c→adr c=none)∧iV w0 ex0 P0 w P adr∧(∀b o,P b o→P0 b o∨w0.heap.size≤b∨ex0.ex b)
 fresh: ∀c,F c→m c=none
 ge: ∀c,F c→ex0.n0≤c
 since:bo ex0.ex w0 w
 defers:a.defers= []
 size:a.tmps.size=N
section
variable {Pg:Program} {T:bh} {N:Nat} {ents:List FuncId} {G:GS} {w0 w w':World} {ex0:Fo} {P0 P:bE} {adr:er} {e e':Nat→Option MV} {m m':FM} {n:Nat} {F F':Nat→Prop} {a:Act} {r:MV} {u:Value} {δ:Dl} {ops:Array Oper} {o:Oper}
theorem oK.toS (h:oK N w0 ex0 P0 e m n a w):ke N w0 ex0 P0 e m (n≤·) a w:=⟨h.ex,h.fresh,fun _ hc=>c₂ h.ge hc,h.since,h.defers,h.size⟩
theorem ke.toSim (h:ke N w0 ex0 P0 e m F a w) (hn: ∀c,n≤c→F c):oK N w0 ex0 P0 e m n a w:=by
 obtain⟨P,adr,h1,h2,h3,h4,h5⟩:=h.ex;exact⟨⟨P,adr,h1,h2,fun c hc=>h3 c (hn c hc),h4,h5⟩,fun c hc=>h.fresh c (hn c hc),h.ge n (hn n (c₅ _)),h.since,h.defers,h.size⟩
theorem Lf (hS:jU Pg T ents G w0 ex0) (h:kT Pg T ents G o e m n r δ) (hI:aU w P adr m) (hn:adr n=none) (hf:m n=none) (hE:fX w P adr e a) (hs:bo ex0.ex w0 w)
  {next:Act→World→Prop} {Q:Exit→Act→World→Prop} (hK: ∀u w',bz w P adr m n r δ u w'→next (a.put o.dst u) w'):o.wp Pg a w next Q:=by
 have plain:(iI Pg T e m n o).runP (fun x=>x=(r,δ))→o.wp Pg a w next Q:=by
  intro h
  obtain⟨r',δ',hk,hr⟩:=HF hS.seat.tab hI hn hf hE h
  injection hk with hk1 hk2
  subst hk1;subst hk2
  unfold Oper.wp
  rcases hr with ⟨u,w',h1,h2⟩ | ⟨w',h1,h2⟩
  ·rw [h1];exact hK u w' h2
  ·rw [h1];exact hK undef w' h2
 obtain⟨dst,op,ty,pos,after,guard⟩:=o
 cases op with
 | call c=>
  obtain⟨callee,args,ats⟩:=c
  cases callee with
  | builtin b=>exact plain h
  | invoke r n=>exact plain h
  | value f=>
   replace h:(gu e m f args.toList).runP fun x=>ents.contains x.1=true∧aD Pg G x.1 x.2.1 r∧δ= .bump x.2.2∧∀c∈x.2.2,m c.1≠none:=h
   unfold gu at h
   obtain⟨pf,h,hpf⟩:=bC hE h
   obtain⟨ps,h,hps⟩:=iZ hE h
   cases pf with
   | fn f0 caps=>
    replace h:=aZ.bind_runP.1 h
    generalize hu:a.eval f=uf at hpf
    cases hpf with
    | val cs hfn=>
     cases hfn with
     | fn parts hpl hpr=>
      have hall:=hps.app (cD.of_parts hpl hpr)
      obtain⟨l',bs,h,P',h1,h2,h3,h4⟩:=qd h hall hI
      obtain⟨hc,hsem,rfl,_⟩:=h
      replace hc:ents.contains f0=true:=hc
      replace hsem:aD Pg G f0 l' r:=hsem
      have hrun:(execOp a.eval ⟨dst, .call ⟨.value f,args,ats⟩,ty,pos,after,guard⟩).run Pg w= .ok (.enter f0 (args.toList.map a.eval ++ b₇ valM caps parts).toArray) w:=by
       have he:=hS.seat.enters f0 (by simpa using hc) (args.toList.map a.eval ++ b₇ valM caps parts).toArray w
       rw [← he]
       have hmap:args.map a.eval=(args.toList.map a.eval).toArray:=jD _ _
       simp [execOp,resolve,hu,valM,MV.isAgg,Deferred.ofValue,invoke,hmap]
      unfold Oper.wp
      rw [hrun]
      refine(hsem w P' _ (hS.good w hs) h1.prot h4).mono ?_
      rintro e w' ⟨v,rfl,h5,h6⟩
      refine hK v w' ⟨hY w w' P',adr,?_,by exact h1.below h6,h2.trans (bj.below h1.prot h6),fun _ _=>rfl,fun g hg=>(by rw [hn] at hg;cases hg),(bo.of_below h6).weak fun _ e=>e.elim,fun b o hb=>?_⟩
      ·exact h5.keep ⟨fun _ _ h=>h,fun _ _ _=>rfl,fun _ _ h=>(nomatch h),fun _ _ _ _ h=>nomatch h⟩
      ·rcases hb with hb | hb
       ·rcases h3 b o hb with hb | hb
        ·exact .inl hb
        ·exact .inr (.inr hb)
       ·exact .inr (.inl hb.1)
   | _=>exact h.elim
 | _=>exact plain h
theorem Cm: ∀{l:List (Nat×Nat)} {m:FM} {c:Nat},m c=none→cN m l c=none:=by
 intro l m c h;rw [bumpF_get,h];rfl
theorem wv {c:Nat} (h:m c=none) (hc:c≠n):δ.appF n m c=none:=by
 cases δ with
 | none=>exact h
 | new b=>show aP _ _ _ c=none;rw [aK _ _ hc];exact h
 | upd c' l=>
  show(match m c' with | some b=>aP m c' { b with l:=l } | none=>m) c=none
  cases hb:m c' with
  | none=>exact h
  | some b=>
   show aP _ c' _ c=none
   rw [aK]
   ·exact h
   ·rintro rfl;rw [h] at hb;cases hb
 | mv c' b=>
  show aP _ _ _ c=none
  rw [aK _ _ hc];unfold iX;split
  ·rfl
  ·exact h
 | bump l=>exact Cm h
theorem ke.post (hs:ke N w0 ex0 P0 e m F a w) (_hI:aU w P adr m) (hE:fX w P adr e a) (hn: ∀c,F c→adr c=none) (hg:iV w0 ex0 P0 w P adr) (hp: ∀b o,P b o→P0 b o∨w0.heap.size≤b∨ex0.ex b)
  (hpo:bz w P adr m n r δ u w') {dst:Option Tmp} (hd: ∀d,dst=some d→d < N) (hFn:F n) (hF: ∀c,F' c→F c∧c≠n):ke N w0 ex0 P0 (kU dst r e) (δ.appF n m) F' (a.put dst u) w':=by
 obtain⟨P',adr',h1,h2,h3,h4,h5,h6,h7⟩:=hpo
 have hE':fX w' P' adr' e a:=fun t v ht=>by
  obtain⟨u,e1,e2⟩:=hE t v ht
  exact⟨u,e1,e2.keep h3⟩
 have hsize:=hs.since.size
 have common: ∀{e':Nat→Option MV} {a':Act},fX w' P' adr' e' a'→a'.defers= [] →a'.tmps.size=N→ke N w0 ex0 P0 e' (δ.appF n m) F' a' w':=by
  intro e' a' e1 e2 e3
  refine⟨⟨P',adr',h2,e1,fun c hc=>?_,⟨fun c g hc=>?_,fun c hc=>(h4 c (by have:=hs.ge n hFn;omega)).trans (hg.old c hc),hg.keep.trans h3⟩,fun b o ho=>?_⟩,fun c hc=>?_,fun c hc=>hs.ge c (hF c hc).1,?_,e2,e3⟩
  ·rw [h4 c (hF c hc).2];exact hn c (hF c hc).1
  ·by_cases e:c=n
   ·subst e
    rcases h5 g hc with h | ⟨c',h⟩
    ·exact .inl (c₂ hsize h)
    ·exact hg.in_ c' g h
   ·rw [h4 c e] at hc;exact hg.in_ c g hc
  ·rcases h7 b o ho with h | h | ⟨c',h⟩
   ·exact hp b o h
   ·exact .inr (.inl (c₂ hsize h))
   ·rcases hg.in_ c' b h with h | h
    ·exact .inr (.inl h)
    ·exact .inr (.inr h)
  ·exact wv (hs.fresh c (hF c hc).1) (hF c hc).2
  ·exact⟨h6.os.trans hs.since.os,h6.tape.trans hs.since.tape,h6.output.trans hs.since.output,c₂ hsize h6.size,fun b hb hne=>(h6.block b (Nat.lt_of_lt_of_le hb hsize) (fun⟨c,hc⟩=>by
    rcases hg.in_ c b hc with h | h
    ·omega
    ·exact hne h)).trans (hs.since.block b hb hne)⟩
 cases dst with
 | none=>exact common hE' hs.defers hs.size
 | some d=>
  have hd':=hd d rfl
  refine common ?_ hs.defers (by simp [Act.put,hs.size])
  intro t v ht
  simp only [Act.put,Array.getElem?_setIfInBounds]
  replace ht:aP e d r t=some v:=ht
  unfold aP at ht
  split at ht
  ·rename_i e
   subst e
   injection ht with ht
   subst ht
   exact⟨u,by simp [hs.size,hd'],h1⟩
  ·rename_i hne
   rw [if_neg fun h=>hne h.symm]
   exact hE' t v ht
theorem ke.put (hd:a.defers= []) (hz:a.tmps.size=N) {w':World} {P':bE} {adr':er} (hI:aU w' P' adr' m') (hE:fX w' P' adr' e a) (hr:aJ w' P' adr' r u) (h1: ∀c,F' c→adr' c=none) (h2:iV w0 ex0 P0 w' P' adr')
  (h3: ∀b o,P' b o→P0 b o∨w0.heap.size≤b∨ex0.ex b) (h4: ∀c,F' c→m' c=none) (h5: ∀c,F' c→ex0.n0≤c) (h6:bo ex0.ex w0 w') {dst:Option Tmp} (hdl: ∀d,dst=some d→d < N):ke N w0 ex0 P0 (kU dst r e) m' F' (a.put dst u) w':=by
 cases dst with
 | none=>exact ⟨⟨P',adr',hI,hE,h1,h2,h3⟩,h4,h5,h6,hd,hz⟩
 | some d=>
  have hd':=hdl d rfl
  refine⟨⟨P',adr',hI,fun t v ht=>?_,h1,h2,h3⟩,h4,h5,h6,hd,by simp [Act.put,hz]⟩
  simp only [Act.put,Array.getElem?_setIfInBounds]
  replace ht:aP e d r t=some v:=ht
  unfold aP at ht
  split at ht
  ·rename_i e
   subst e
   injection ht with ht
   subst ht
   exact⟨u,by simp [hz,hd'],hr⟩
  ·rename_i hne
   rw [if_neg fun h=>hne h.symm]
   exact hE t v ht
theorem FL (hS:jU Pg T ents G w0 ex0) {rf:Bool} {fp:List Nat} {next:Act→World→Prop} {Q:Exit→Act→World→Prop} (hs:ke N w0 ex0 P0 e m F a w) (hn:F n) (hn2:n + 1∈fp→F (n + 1)) (hF0: ∀c,F' c→F c∧¬ zw n fp c)
  (h:cW Pg T N ents G ops rf o n fp e m e' m') (hk: ∀a w,ke N w0 ex0 P0 e' m' F' a w→next a w) :
  if Region.wanted o (yielded ops a.tmps) then o.wp Pg a w next Q∨(o.asks Pg a w∧LetsOut Q) else next (a.put o.dst undef) w:=by
 obtain⟨r,hd,rfl,h⟩:=h
 have hF: ∀c,F' c→F c∧c≠n:=fun c hc=>⟨(hF0 c hc).1,fun e=>(hF0 c hc).2 (.inl e)⟩
 obtain⟨P,adr,hI,hE,ha1,ha2,ha3⟩:=hs.ex
 have wanted: ∀{b},Cc ops o e=some b→Region.wanted o (yielded ops a.tmps)=b:=by
  intro b hb
  unfold Cc at hb
  split at hb
  ·rename_i hg
   injection hb with hb
   simp [Region.wanted,hg,← hb]
  ·rename_i j want hg
   split at hb
   ·cases hb
   ·rename_i s hj
    split at hb
    ·rename_i t ht
     injection hb with hb
     obtain⟨v,hv1,hv2⟩:=hE s _ ht
     have hv:=hv2.bool_
     subst hv
     have hy:yielded ops a.tmps j=some t:=by simp [yielded,hj,hv1]
     simp only [Region.wanted,hg,hy,← hb]
     cases t <;> cases want <;> rfl
    ·rename_i ht
     injection hb with hb
     obtain⟨v,hv1,hv2⟩:=hE s _ ht
     have hv:v=undef:=hv2.undef_
     subst hv
     have hy:yielded ops a.tmps j=none:=by simp [yielded,hj,hv1,undef]
     simp [Region.wanted,hg,hy,← hb]
    ·cases hb
 cases rf with
 | false=>
  obtain⟨δ,⟨b,hb,h1,h2⟩,rfl,_⟩:=h
  rw [wanted hb]
  cases b with
  | true=>
   rw [if_pos rfl]
   refine .inl (Lf hS (h1 rfl) hI (ha1 n hn) (hs.fresh n hn) hE hs.since fun u w' hp=>hk _ _ ?_)
   exact hs.post hI hE ha1 ha2 ha3 hp hd hn hF
  | false=>
   rw [if_neg sm]
   obtain⟨rfl,rfl⟩:=h2 rfl
   exact hk _ _ (hs.post (δ:= .none) hI hE ha1 ha2 ha3 (bz.pure hI (ha1 n hn) .undef) hd hn hF)
 | true=>
  obtain⟨b,hb,h1,h2⟩:=h
  rw [wanted hb]
  cases b with
  | false=>
   rw [if_neg sm]
   obtain⟨rfl,rfl⟩:=h2 rfl
   exact hk _ _ (hs.post (δ:= .none) hI hE ha1 ha2 ha3 (bz.pure hI (ha1 n hn) .undef) hd hn hF)
  | true=>
   rw [if_pos rfl]
   have h:=h1 rfl
   obtain⟨dst,op,ty,pos,after,guard⟩:=o
   unfold vS at h
   cases op with
   | call c=>
    obtain⟨callee,args,ats⟩:=c
    cases callee with
    | value f=>
     replace h:(eT e f args.toList).runP fun x=>ents.contains x.1=true∧∃M,VM.get M=m∧lT Pg G M n x.1 x.2 fp fun r' M'=>r'=r∧VM.get M'=m':=h
     unfold eT at h
     obtain⟨pf,h,hpf⟩:=bC hE h
     obtain⟨ps,h,hps⟩:=iZ hE h
     cases pf with
     | fn f0 caps=>
      generalize hu:a.eval f=uf at hpf
      cases hpf with
      | val cs hfn=>
       cases hfn with
       | fn parts hpl hpr=>
        have hall:=hps.app (cD.of_parts hpl hpr)
        replace h:ents.contains f0=true∧∃M,VM.get M=m∧lT Pg G M n f0 (ps ++ caps) fp fun r' M'=>r'=r∧VM.get M'=m':=h
        obtain⟨hc,M,rfl,hz⟩:=h
        have hrun:(execOp a.eval ⟨dst, .call ⟨.value f,args,ats⟩,ty,pos,after,guard⟩).run Pg w= .ok (.enter f0 (args.toList.map a.eval ++ b₇ valM caps parts).toArray) w:=by
         have he:=hS.seat.enters f0 (by simpa using hc) (args.toList.map a.eval ++ b₇ valM caps parts).toArray w
         rw [← he]
         have hmap:args.map a.eval=(args.toList.map a.eval).toArray:=jD _ _
         simp [execOp,resolve,hu,valM,MV.isAgg,Deferred.ofValue,invoke,hmap]
        refine .inl ?_
        unfold Oper.wp
        rw [hrun]
        refine(Fu hS hz hs.since (hs.fresh n hn) (hs.ge n hn) (ha1 n hn) (fun h=>hs.fresh _ (hn2 h)) (fun h=>ha1 _ (hn2 h)) hI hE ha2 ha3 hall).mono ?_
        rintro e w' ⟨v,rfl,r',M',⟨rfl,rfl⟩,P',adr1,q1,q2,q3,q8,q4,q5,q6,q7⟩
        exact hk _ _ (ke.put hs.defers hs.size q1 q2 q3 (fun c hc=>(q8 c (hF0 c hc).2).trans (ha1 c (hF c hc).1)) q4 q5 (fun c hc=>q6 c (hF0 c hc).2 (hs.fresh c (hF c hc).1)) (fun c hc=>hs.ge c (hF c hc).1) q7 hd)
     | _=>exact h.elim
    | _=>exact h.elim
   | _=>exact h.elim
end
end
section
section
variable (Pg:Program) (T:bh) (N:Nat) (ents:List FuncId) (G:GS)
structure pV where
 k:Nat
 n:Nat
 rf:Bool
 fp:List Nat
def HX (ops:Array Oper):List pV→(Nat→Option MV)→FM→(Nat→Option MV)→FM→Prop
 | [],e,m,e',m'=>e=e'∧m=m'
 | x :: L,e,m,e',m'=> ∃o e1 m1,ops[x.k]? =some o∧cW Pg T N ents G ops x.rf o x.n x.fp e m e1 m1∧HX ops L e1 m1 e' m'
end
def HY (x y:pV) (a b:Oper):Bool:=(!x.rf && !y.rf && Qr (pU a) (pU b)) || (Le (x.n :: x.fp) (y.n :: y.fp) || (!y.rf && a₆ (pU b) 0 || !x.rf && a₆ (pU a) 0))
def OK (ops:Array Oper) (x y:pV):Bool:=match ops[x.k]?,ops[y.k]? with
 | some a,some b=>((a.apart ops b && HY x y a b) || sV ops 8 y.k x.k) && a.after.toList.all (fun e=> !Region.binds .any e || !a₆ e.on y.k) && !a₆ x.k y.k
 | _,_=>false
def OL (ops:Array Oper) (x:Nat):Bool:=match ops[x]? with
 | some a=>a.after.toList.all fun e=> !Region.binds .any e || (a₄ e.on ops.size && !a₆ e.on x)
 | none=>false
def Lg (ops:Array Oper):List pV→Bool
 | [] =>true
 | x :: L=>OL ops x.k && L.all (fun y=>OK ops x y) && Lg ops L
def DU (L:List pV) (n:Nat):Bool:=L.all fun x=> !x.fp.any (a₆ (x.n + 1)) || (a₄ (x.n + 1) n && L.all fun y=> !a₆ y.n (x.n + 1))
def gw (ops:Array Oper) (L:List pV) (n:Nat):Bool:=Lg ops L && (List.range ops.size).all (fun k=>(L.map (·.k)).contains k) && c₈ L.length ops.size && DU L n
def pV.own (x:pV) (c:Nat):Prop:=zw x.n x.fp c
def Dj (x y:pV):Prop:= ∀c,x.own c→¬ y.own c
theorem qk {L:List pV} {n:Nat} (h:DU L n=true) {x:pV} (hx:x∈L) (h2:x.n + 1∈x.fp):x.n + 1 < n∧∀y∈L,y.n≠x.n + 1:=by
 unfold DU at h;rw [a₇] at h;have:=h x hx;rw [b₃] at this;rcases this with h3 | h3
 ·have:x.fp.any (a₆ (x.n + 1))=true:=c₉.2 ⟨_,h2,sm⟩;rw [this] at h3;cases h3
 ·rw [a₀,a₇] at h3;refine⟨by simpa [c₆] using h3.1,fun y hy e=>?_⟩;have:=h3.2 y hy;rw [e] at this;simp at this
theorem OM {L:List pV} {n:Nat} (h:DU L n=true) (hd:(L.map (·.n)).Nodup):L.Pairwise Dj:=by
 have key: ∀{x y:pV},x∈L→y∈L→x.n≠y.n→Dj x y:=by
  intro x y hx hy hne c h1 h2;rcases h1 with h1 | ⟨h1,h4⟩ <;> rcases h2 with h2 | ⟨h2,h3⟩
  ·exact hne om
  ·exact(qk h hy (h2▸h3)).2 x hx om
  ·exact(qk h hx (h1▸h4)).2 y hy om
  ·exact hne om
 have hp:L.Pairwise fun x y=>x.n≠y.n:=List.pairwise_map.1 hd
 exact List.Pairwise.imp_of_mem (fun hx hy hne=>key hx hy hne) hp
theorem wx {ops:Array Oper}: ∀{L:List pV},Lg ops L=true→L.Pairwise (fun x y=>OK ops x y=true)∧∀x∈L,OL ops x.k=true
 | [],_=>⟨.nil,fun _ h=>nomatch h⟩
 | x :: L,h=>by
  simp only [Lg,a₀,a₇] at h
  obtain⟨h1,h2⟩:=wx h.2
  refine⟨.cons h.1.2 h1,fun y hy=>?_⟩
  rcases b₂.1 hy with rfl | hy
  ·exact h.1.1
  ·exact h2 y hy
section
variable {Pg:Program} {T:bh} {N:Nat} {ents:List FuncId} {G:GS} {ops:Array Oper} {e e':Nat→Option MV} {m m':FM} {listed:Array Bool}
theorem FN {x y:pV} {a b:Oper} {e1 e2:Nat→Option MV} {m1 m2:FM} (hm: ∃M,VM.get M=m) (h1:cW Pg T N ents G ops x.rf a x.n x.fp e m e1 m1) (h2:cW Pg T N ents G ops y.rf b y.n y.fp e1 m1 e2 m2) (ha:a.apart ops b=true) (hc:HY x y a b=true) (hij:x.n≠y.n) (hi:m x.n=none) (hj:m y.n=none) :
  ∃e' m',cW Pg T N ents G ops y.rf b y.n y.fp e m e' m'∧cW Pg T N ents G ops x.rf a x.n x.fp e' m' e2 m2:=by
 obtain⟨M,rfl⟩:=hm
 unfold HY at hc
 rw [b₃] at hc
 rcases hc with hc | hc
 ·simp only [a₀,b₁] at hc
  obtain⟨⟨q1,q2⟩,q3⟩:=hc
  rw [q1] at h1 ⊢
  rw [q2] at h2 ⊢
  exact Ci h1 h2 ha q3 hij hi hj
 ·rw [b₃] at hc
  rcases hc with hc | hc
  ·exact Cj h1 h2 ha hc
  ·rw [b₃] at hc
   rcases hc with hc | hc
   ·simp only [a₀,b₁] at hc
    obtain⟨q1,q2⟩:=hc
    rw [q1] at h2 ⊢
    exact Ck h1 h2 ha (a₉ q2)
   ·simp only [a₀,b₁] at hc
    obtain⟨q1,q2⟩:=hc
    rw [q1] at h1 ⊢
    exact Cl h1 h2 ha (a₉ q2)
theorem ts {o:Oper} {rf:Bool} {fp:List Nat} {n c:Nat} (hm0: ∃M,VM.get M=m) (h:cW Pg T N ents G ops rf o n fp e m e' m') (hm:m c=none) (hc0: ¬ zw n fp c):m' c=none:=by
 have hc:c≠n:=fun e=>hc0 (.inl e)
 obtain⟨r,_,_,h⟩:=h;cases rf with
 | false=>obtain ⟨δ,_,rfl,_⟩:=h;exact wv hm hc
 | true=>
  obtain⟨M0,rfl⟩:=hm0;obtain⟨b,h1,h2,h3⟩:=h;cases b with
  | false=>rw [(h3 rfl).2];exact hm
  | true=>
   have h:=h2 rfl;unfold vS at h;split at h
   ·split at h
    ·unfold eT rd at h;split at h
     ·obtain⟨vs,_,h⟩:=lV h;split at h
      ·obtain⟨_,M,hM,args,M0',n0,res,M1,n1,_,σ,bs,hL,hin,hk,htw,_,_,_,hm'⟩:=h;rw [← hm',get_app,xQ fun z hz=>?_]
       ·cases hx:VM.get (iM (VM.bump M bs) σ) c with
        | none=>rfl
        | some b=>
         obtain⟨h4,_⟩:=lU σ _ c b hx;obtain⟨b',h5⟩:=oP h4;rw [hM,hm] at h5;cases h5
       ·cases hd:kQ σ z.1 with
        | none=>exact fun h=>OJ hk htw hz hd (h▸hc0)
        | some d=>
        unfold gO;rw [hd];rintro rfl;obtain⟨b',hb'⟩:=gj hin z.1 d (eP hd);rw [hM,hm] at hb';cases hb'
      ·exact h.elim
     ·exact h.elim
    ·exact h.elim
   ·exact h.elim
theorem tt: ∀{L1:List pV} {L2:List pV} {k:pV} {e:Nat→Option MV} {m:FM},(∃M,VM.get M=m)→HX Pg T N ents G ops (L1 ++ k :: L2) e m e' m'→
  (∀x∈L1,∃a b,ops[x.k]? =some a∧ops[k.k]? =some b∧a.apart ops b=true∧HY x k a b=true)→(∀x∈L1,Dj x k∧m x.n=none)→m k.n=none→L1.Pairwise Dj→
  ∃o e1 m1,ops[k.k]? =some o∧cW Pg T N ents G ops k.rf o k.n k.fp e m e1 m1∧HX Pg T N ents G ops (L1 ++ L2) e1 m1 e' m'
 | [],_,_,_,_,_,h,_,_,_,_=>h
 | x :: L1,L2,k,e,m,hv,h,hc,hn,hk,hd=>by
  obtain⟨o,e1,m1,h1,h2,h3⟩:=h
  obtain⟨hx1,hx2⟩:=hn x sm
  obtain⟨hd1,hd2⟩:=c₃.1 hd
  have no: ∀{y:pV},Dj x y→¬ zw x.n x.fp y.n:=fun {y} hy h=>hy y.n h (.inl rfl)
  have hv1: ∃M,VM.get M=m1:=by obtain⟨M,rfl⟩:=hv;exact xR h2
  obtain⟨o',e2,m2,h4,h5,h6⟩:=tt hv1 h3 (fun y hy=>hc y (by simp [hy])) (fun y hy=>⟨(hn y (by simp [hy])).1,ts hv h2 (hn y (by simp [hy])).2 (no (hd1 y hy))⟩) (ts hv h2 hk (no hx1)) hd2
  obtain⟨a,b,p1,p2,p3,p4⟩:=hc x sm
  rw [h1] at p1;injection p1 with p1;subst p1
  rw [h4] at p2;injection p2 with p2;subst p2
  obtain⟨e3,m3,q1,q2⟩:=FN hv h2 h5 p3 p4 (fun e=>hx1 x.n (.inl rfl) (.inl e)) hx2 hk
  exact⟨o',e3,m3,h4,q1,o,e2,m2,h1,q2,h6⟩
def DV (ops:Array Oper) (listed:Array Bool):Prop:= ∀k o,ops[k]? =some o→listed.getD k false=true→∀e∈o.after.toList,Region.binds .any e=true→listed.getD e.on false=true
theorem rA (hc:DV ops listed) {x:Nat} (hx:listed.getD x false=false): ∀(f y:Nat) (o:Oper),ops[y]? =some o→(∀e∈o.after.toList,Region.binds .any e=true→listed.getD e.on false=true)→sV ops f y x=false
 | 0,_,_,_,_=>rfl
 | f + 1,y,o,h1,h2=>by
  unfold sV
  rw [h1]
  show(o.after.toList.any _)=false
  rw [List.any_eq_false]
  intro e he
  cases hb:Region.binds .any e with
  | false=>simp
  | true=>
   have hl:=h2 e he hb
   have hne:a₆ e.on x=false:=by
    cases hh:a₆ e.on x with
    | false=>rfl
    | true=>rw [a₉ hh,hx] at hl;cases hl
   cases ho:ops[e.on]? with
   | none=>
    have:sV ops f e.on x=false:=by
     cases f with
     | zero=>rfl
     | succ f=>unfold sV;rw [ho]
    simp [hne,this]
   | some o'=>
    have:=rA hc hx f e.on o' ho (hc _ _ ho hl)
    simp [hne,this]
theorem zU {l:Array Bool} {i k:Nat} {d:Bool} (hi:i < l.size):(l.setIfInBounds i true).getD k d=if i=k then true else l.getD k d:=by
 by_cases h:i=k
 ·subst h;simp [Array.getD,hi]
 ·simp [Array.getD_eq_getD_getElem?,h]
theorem wy {i:Nat} (h:i∈Region.ready .any ops listed):listed.getD i true=false∧∃o,ops[i]? =some o∧∀e∈o.after.toList,Region.binds .any e=true→listed.getD e.on false=true:=by
 simp only [Region.ready,e₁,e₅,a₀,b₁] at h;obtain⟨h1,h2,h3⟩:=h;have ho:ops[i]? =some ops[i] :=by simp [h1]
 refine⟨h2,ops[i],ho,fun e he hb=>?_⟩;rw [ho] at h3;simp only [e₃,d₈,Array.all_eq_true'] at h3;have:=h3 e (by simpa using he);simpa [hb] using this
theorem HZ {i:Nat} {o:Oper} (h1:listed.getD i true=false) (h2:ops[i]? =some o) (h3: ∀e∈o.after.toList,Region.binds .any e=true→listed.getD e.on false=true):i∈Region.ready .any ops listed:=by
 simp only [Region.ready,e₁,e₅,a₀,b₁];refine⟨(Array.getElem?_eq_some_iff.1 h2).1,h1,?_⟩;rw [h2];simp only [e₃,d₈,Array.all_eq_true'];intro e he;cases hb:Region.binds .any e with
 | false=>rfl
 | true=>simp [h3 e (by simpa using he) hb]
end
end
section
section
variable {Pg:Program} {T:bh} {N:Nat} {ents:List FuncId} {G:GS} {ops:Array Oper} {e':Nat→Option MV} {m':FM} {w0:World} {ex0:Fo} {P0:bE} {Q:Exit→Act→World→Prop} {Z:Nat→Prop}
theorem sh {x y:pV} (h:OK ops x y=true): ∃a b,ops[x.k]? =some a∧ops[y.k]? =some b∧((a.apart ops b=true∧HY x y a b=true)∨sV ops 8 y.k x.k=true)∧(∀e∈a.after.toList,Region.binds .any e=true→e.on≠y.k)∧x.k≠y.k:=by
 unfold OK at h;split at h
 ·rename_i a b ha hb;simp only [a₀,b₃,a₇,b₁] at h;obtain⟨⟨h1,h2⟩,h3⟩:=h;refine⟨a,b,ha,hb,h1,fun e he hbd hh=>?_,fun hh=>?_⟩
  ·rcases h2 e he with h | h
   ·rw [hbd] at h;cases h
   ·rw [hh] at h;simp at h
  ·rw [hh] at h3;simp at h3
 ·cases h
theorem DX {x:Nat} (h:OL ops x=true): ∃a,ops[x]? =some a∧∀e∈a.after.toList,Region.binds .any e=true→e.on < ops.size∧e.on≠x:=by
 unfold OL at h;split at h
 ·rename_i a ha;simp only [a₇,b₃,a₀,b₁] at h;refine⟨a,ha,fun e he hb=>?_⟩;rcases h e he with h | ⟨h1,h2⟩
  ·rw [hb] at h;cases h
  ·refine⟨by simpa [c₆] using h1,fun hh=>?_⟩;subst hh;simp at h2
 ·cases h
theorem zV {l:Array Bool} {k:Nat} {d d':Bool} (h:k < l.size):l.getD k d=l.getD k d':=by simp [Array.getD,h]
theorem Nr (hS:jU Pg T ents G w0 ex0) (hQ: ∀a w,ke N w0 ex0 P0 e' m' Z a w→Q .normal a w): ∀(fuel:Nat) (L:List pV) {listed:Array Bool} {e:Nat→Option MV} {m:FM} {a:Act} {w:World},
  (∃M,VM.get M=m)→HX Pg T N ents G ops L e m e' m'→L.Pairwise (fun x y=>OK ops x y=true)→(∀x∈L,OL ops x.k=true)→L.Pairwise Dj→(∀x∈L,∀c,x.own c→¬ Z c)→
  ke N w0 ex0 P0 e m (fun c=>(∃x∈L,x.own c)∨Z c) a w→(∀k,k < ops.size→(listed.getD k true=false↔k∈L.map (·.k)))→listed.size=ops.size→DV ops listed→L.length≤fuel→wpAny Pg .any ops Q fuel listed a w:=by
 intro fuel
 induction fuel with
 | zero=>
  intro L listed e m a w hv hr hP hA hD hZ hs hl hsz hc hlen
  obtain rfl:L= [] :=List.length_eq_zero_iff.1 om
  obtain⟨rfl,rfl⟩:=hr
  refine wpAny_done (List.eq_nil_iff_forall_not_mem.2 fun i hi=>?_) (hQ a w (by simpa using hs)) 0
  obtain⟨h1,o,h2,_⟩:=wy hi
  exact absurd ((hl i (Array.getElem?_eq_some_iff.1 h2).1).1 h1) sm
 | succ fuel ih=>
  intro L listed e m a w hv hr hP hA hD hZ hs hl hsz hc hlen
  have hunl: ∀x∈L,listed.getD x.k true=false∧listed.getD x.k false=false:=by
   intro x hx
   obtain⟨o,ho,_⟩:=DX (hA x hx)
   have hlt:=(Array.getElem?_eq_some_iff.1 ho).1
   have h1:=(hl x.k hlt).2 (List.mem_map_of_mem hx)
   exact⟨h1,by rw [zV (d':=true) om];exact h1⟩
  refine⟨fun h0=>?_,fun i hi=>?_⟩
  ·cases L with
   | nil=>
    obtain⟨rfl,rfl⟩:=hr
    exact hQ a w (by simpa using hs)
   | cons x L=>
    exfalso
    obtain⟨o,ho,h2⟩:=DX (hA x sm)
    have:x.k∈Region.ready .any ops listed:=HZ (hunl x sm).1 ho fun ed he hb=>by
     obtain⟨h3,h4⟩:=h2 ed he hb
     rw [zV (d':=true) om]
     cases hh:listed.getD ed.on true with
     | true=>rfl
     | false=>
      exfalso
      have:=(hl ed.on h3).1 hh
      simp only [c₀,b₂] at this
      rcases this with h5 | h5
      ·exact h4 h5
      ·obtain⟨y,hy,hyk⟩:=b₆.1 h5
       obtain⟨a',b',p1,p2,p3,p4,p5⟩:=sh ((c₃.1 hP).1 y hy)
       rw [ho] at p1
       injection p1 with p1
       subst p1
       exact p4 ed he hb hyk.symm
    rw [h0] at this
    cases this
  ·obtain⟨h1,o,ho,hready⟩:=wy hi
   have hlt:=(Array.getElem?_eq_some_iff.1 ho).1
   have hmem:=(hl i hlt).1 h1
   obtain⟨k,hk,rfl⟩:=b₆.1 hmem
   obtain⟨L1,L2,rfl⟩:=List.append_of_mem hk
   have hP1:=b₈.1 hP
   have hD1:=b₈.1 hD
   have hD2:=c₃.1 hD1.2.1
   have hP2:=c₃.1 hP1.2.1
   have hne1: ∀x∈L1,Dj x k:=fun x hx=>hD1.2.2 x hx k sm
   have hne2: ∀x∈L2,Dj k x:=fun x hx=>hD2.1 x hx
   obtain⟨o',e1,m1,p1,p2,p3⟩:=tt hv hr (fun x hx=>by
     obtain⟨a',b',q1,q2,q3,_⟩:=sh (hP1.2.2 x hx k sm)
     refine⟨a',b',q1,q2,?_⟩
     rcases q3 with q3 | q3
     ·exact q3
     ·rw [rA hc (hunl x (by simp [hx])).2 8 k.k o ho hready] at q3;cases q3)
    (fun x hx=>⟨hne1 x hx,hs.fresh _ (.inl ⟨x,by simp [hx], .inl rfl⟩)⟩) (hs.fresh _ (.inl ⟨k,sm, .inl rfl⟩)) hD1.1
   rw [ho] at p1
   injection p1 with p1
   subst p1
   have hv1: ∃M,VM.get M=m1:=by obtain⟨M,rfl⟩:=hv;exact xR p2
   unfold wpOp
   rw [ho]
   refine FL (F':=fun c=>(∃x∈L1 ++ L2,x.own c)∨Z c) hS hs (.inl ⟨k,sm, .inl rfl⟩) (fun h=> .inl ⟨k,sm, .inr ⟨rfl,h⟩⟩) (fun c hc'=>?_) p2 fun a' w' hs'=>?_
   ·rcases hc' with ⟨x,hx,ho'⟩ | hc'
    ·rcases a₈.1 hx with hx | hx
     ·exact⟨.inl ⟨x,by simp [hx],ho'⟩,hne1 x hx c ho'⟩
     ·exact⟨.inl ⟨x,by simp [hx],ho'⟩,fun h=>hne2 x hx c h ho'⟩
    ·exact⟨.inr hc',fun hh=>hZ k hk c hh hc'⟩
   ·have hnk: ∀j,j∈(L1 ++ L2).map (·.k)→k.k≠j:=by
     intro j hj
     obtain⟨y,hy,rfl⟩:=b₆.1 hj
     rcases a₈.1 hy with hy | hy
     ·obtain⟨_,_,_,_,_,_,q⟩:=sh (hP1.2.2 y hy k sm);exact fun h=>q h.symm
     ·obtain⟨_,_,_,_,_,_,q⟩:=sh (hP2.1 y hy);exact q
    refine ih (L1 ++ L2) hv1 p3 ?_ (fun x hx=>hA x ?_) ?_ (fun x hx=>hZ x ?_) hs' (fun j hj=>?_) (by simpa using hsz) ?_ ?_
    ·exact b₈.2 ⟨hP1.1,hP2.2,fun x hx y hy=>hP1.2.2 x hx y (by simp only [b₂];exact .inr hy)⟩
    ·rcases a₈.1 hx with hx | hx <;> simp [hx]
    ·exact b₈.2 ⟨hD1.1,hD2.2,fun x hx y hy=>hD1.2.2 x hx y (by simp only [b₂];exact .inr hy)⟩
    ·rcases a₈.1 hx with hx | hx <;> simp [hx]
    ·rw [zU om]
     by_cases hkj:k.k=j
     ·rw [if_pos hkj]
      exact⟨fun h=>(by cases h),fun h=>absurd hkj (hnk j h)⟩
     ·rw [if_neg hkj,hl j hj]
      simp only [List.map_append,c₀,a₈,b₂]
      constructor
      ·rintro(h | h | h)
       ·exact .inl h
       ·exact absurd h.symm hkj
       ·exact .inr h
      ·rintro(h | h)
       ·exact .inl h
       ·exact .inr (.inr h)
    ·intro j oj hj hjl ed he hb
     rw [zU om] at hjl ⊢
     split
     ·rfl
     ·split at hjl
      ·rename_i hkj
       subst hkj
       rw [ho] at hj
       injection hj with hj
       subst hj
       exact hready ed he hb
      ·exact hc j oj hj hjl ed he hb
    ·simp only [b₄,b₀] at hlen ⊢
     omega
end
end
section
section
variable {Pg:Program} {T:bh} {N:Nat} {ents:List FuncId} {G:GS} {ops:Array Oper} {E:VE} {M:VM} {n:Nat} {o:Oper}
theorem Cn {e:Nat→Option MV} {m:FM} {f:Operand} {args:List Operand} {K:FuncId×List MV×List (Nat×Nat)→Prop} (h:(gu e m f args).runP K):(gu e m f args).runP fun x=>K x∧∀c∈x.2.2,m c.1≠none:=by
 unfold gu at h ⊢;unfold rd at h ⊢;split at h
 ·have key: ∀(az:List Operand) (k:List MV→aZ (FuncId×List MV×List (Nat×Nat))) (K K':FuncId×List MV×List (Nat×Nat)→Prop),(∀vs,(k vs).runP K→(k vs).runP K')→(lJ e az k).runP K→(lJ e az k).runP K':=by
   intro az
   induction az with
   | nil=>intro k K K' hk h;exact hk _ h
   | cons x az ih=>
    intro k K K' hk h;unfold lJ rd at h ⊢;split at h
    ·exact ih _ K K' (fun vs h=>hk _ h) h
    ·exact h.elim
  refine key _ _ _ _ (fun vs hk=>?_) h;split at hk
  ·exact cY (jZ (eO.refl m) (aZ.bind_runP.1 hk)) fun x hx=>⟨hx.1,hx.2⟩
  ·exact hk.elim
 ·exact h.elim
theorem zW {E2:VE} {K:MV→VM→Prop} (h:vH Pg T ents G o E2 M n K): ∃r δ,kT Pg T ents G o (VE.get E2) (VM.get M) n r δ∧K r (δ.app n M):=by
 have plain:(iI Pg T (VE.get E2) (VM.get M) n o).runP (fun x=>K x.1 (x.2.app n M))→∃r δ,(iI Pg T (VE.get E2) (VM.get M) n o).runP (fun x=>x=(r,δ))∧K r (δ.app n M):=by
  intro h;obtain⟨⟨r,δ⟩,h1,h2,_⟩:=Fy Pg T (VE.get E2) (VM.get M) n o _ h;exact⟨r,δ,h1,h2⟩
 obtain⟨dst,op,ty,pos,after,guard⟩:=o;cases op with
 | call c=>
  obtain⟨callee,args,ats⟩:=c;cases callee with
  | value f=>
   replace h:(gu (VE.get E2) (VM.get M) f args.toList).runP fun x=>match ents.contains x.1 with | true=> ∃res,aD Pg G x.1 x.2.1 res∧K res (VM.bump M x.2.2) | false=>False:=h
   obtain⟨x,h1,⟨h2,h3⟩,h4⟩:=zA E2 M f args.toList _ (Cn h);split at h2
   ·rename_i hc;obtain⟨res,hsem,hk⟩:=h2;exact⟨res, .bump x.2.2,h4 _ ⟨hc,hsem,rfl,h3⟩,hk⟩
   ·exact h2.elim
  | _=>exact plain h
 | _=>exact plain h
theorem zX {dst:Option Tmp} {r:MV} {K:VE→Prop} (h:dP N dst r E K): ∃E1,K E1∧(∀d,dst=some d→d < N)∧VE.get E1=kU dst r (VE.get E):=by
 unfold dP at h;split at h
 ·exact⟨E,h,fun d hd=>(nomatch hd),rfl⟩
 ·rename_i d;split at h
  ·rename_i hd;refine⟨_,h,fun d' hd'=>?_,?_⟩
   ·injection hd' with hd';subst hd';simpa [c₆] using hd
   ·funext t;rw [VE.get_cons]
    show _=aP _ d r t
    unfold aP;by_cases ht:d=t
    ·subst ht;simp
    ·rw [if_neg ht,if_neg fun h=>ht h.symm]
  ·exact h.elim
theorem zY {s:Nat} {v:MV} (h:VE.get E s=some v):VE.get ((s,v) :: E)=VE.get E:=by
 funext t;rw [VE.get_cons];split
 ·rename_i hh;subst hh;exact h.symm
 ·rfl
section
variable (Pg:Program) (T:bh) (N:Nat) (ents:List FuncId) (G:GS)
def oU (rf:Bool) (o:Oper) (E:VE) (M:VM) (n:Nat) (K:MV→VM→List Nat→Prop):Prop:=match rf with
 | false=>vH Pg T ents G o E M n fun r M'=>K r M' (numsO (VE.get E) o.op.operands.toList)
 | true=>match o.op with
  | .call c=>match c.callee with
   | .value f=>(dG E f c.args.toList).runP fun x=>match ents.contains x.1 with
    | true=> ∃fp,lT Pg G M n x.1 x.2 fp fun r M'=>K r M' fp
    | false=>False
   | _=>False
  | _=>False
def rX (ops:Array Oper) (rf:Bool) (o:Oper) (K:List Nat→VE→VM→Prop) (E:VE) (M:VM) (n:Nat):Prop:=match o.guard with
 | none=>oU Pg T ents G rf o E M n fun r M fp=>dP N o.dst r E fun E=>K fp E M
 | some (j,want)=>match (ops[j]?).bind (·.dst) with
  | none=>False
  | some s=>match VE.get E s with
   | some (.bool t)=>
    (t=want→oU Pg T ents G rf o ((s, .bool want) :: E) M n fun r M fp=>dP N o.dst r ((s, .bool want) :: E) fun E=>K fp E M)∧
    (t= !want→dP N o.dst .undef ((s, .bool (!want)) :: E) fun E'=>K (bif rf then [] else numsO (VE.get E) o.op.operands.toList) E' M)
   | some .undef=>dP N o.dst .undef E fun E'=>K (bif rf then [] else numsO (VE.get E) o.op.operands.toList) E' M
   | _=>False
def aG (ops:Array Oper):List (Nat×Bool)→List pV→VK→VE→VM→Nat→Prop
 | [],A,K=>fun E M n=>gw ops A.reverse n=true∧K E M n
 | x :: L,A,K=>fun E M n=>match ops[x.1]? with
  | some o=>rX Pg T N ents G ops x.2 o (fun fp E M=>aG ops L (⟨x.1,n,x.2,fp⟩ :: A) K E M (n + 1)) E M n
  | none=>aG ops L A K E M (n + 1)
end
theorem FO {rf:Bool} {E2:VE} {K:MV→VM→List Nat→Prop} {_D:VE} (h:oU Pg T ents G rf o E2 M n K) (hg:Cc ops o (VE.get E2)=some true) (hd: ∀d,o.dst=some d→d < N): ∃r M' fp,K r M' fp∧cW Pg T N ents G ops rf o n fp (VE.get E2) (VM.get M) (kU o.dst r (VE.get E2)) (VM.get M'):=by
 cases rf with
 | false=>
  obtain⟨r,δ,h1,h2⟩:=zW (K:=fun r M'=>K r M' (numsO (VE.get E2) o.op.operands.toList)) h;exact⟨r,δ.app n M,_,h2,r,hd,rfl,δ,⟨true,hg,fun _=>h1,fun h=>nomatch h⟩,Dl.get_app _ _ _,rfl⟩
 | true=>
  have hd':=hd;obtain⟨dst,op,ty,pos,after,guard⟩:=o;unfold oU at h;cases op with
  | call c=>
   obtain⟨callee,args,ats⟩:=c;cases callee with
   | value f=>
    replace h:(eT (VE.get E2) f args.toList).runP fun x=>match ents.contains x.1 with | true=> ∃fp,lT Pg G M n x.1 x.2 fp fun r M'=>K r M' fp | false=>False:=h
    unfold eT at h;obtain⟨x,h1,h2,h3⟩:=(af.rd fun fv=>af.rds fun vs=>by cases fv <;> first | exact af.ret _ | exact af.bad) _ h;split at h2
    ·rename_i hc;obtain⟨fp,args',M0,n0,res,M1,n1,a1,σ,bs,a2,a3,a4,a8,a5,a6,a7⟩:=h2;refine⟨_,_,fp,a7,_,hd',rfl,true,hg,fun _=>?_,fun h=>nomatch h⟩
     show(eT (VE.get E2) f args.toList).runP _
     unfold eT;exact h3 _ ⟨hc,M,rfl,args',M0,n0,res,M1,n1,a1,σ,bs,a2,a3,a4,a8,a5,a6,rfl,rfl⟩
    ·exact h2.elim
   | _=>exact h.elim
  | _=>exact h.elim
theorem H0 {dst:Option Tmp} {r:MV} {K:VE→Prop} (h:dP N dst r E K): ∀d,dst=some d→d < N:=by
 intro d hd;subst hd;unfold dP at h;split at h
 ·rename_i hh;cases hh
 ·rename_i d' hh;injection hh with hh
  subst hh;split at h
  ·rename_i hb;simpa [c₆] using hb
  ·exact h.elim
theorem Co {rf:Bool} {K:MV→VM→List Nat→Prop} (h:oU Pg T ents G rf o E M n K): ∃r M' fp,K r M' fp:=by
 cases rf with
 | false=>obtain ⟨r,δ,h1,h2⟩:=zW (K:=fun r M'=>K r M' (numsO (VE.get E) o.op.operands.toList)) h;exact⟨_,_,_,h2⟩
 | true=>
  obtain⟨dst,op,ty,pos,after,guard⟩:=o;unfold oU at h;cases op with
  | call c=>
   obtain⟨callee,args,ats⟩:=c;cases callee with
   | value f=>
    replace h:(eT (VE.get E) f args.toList).runP fun x=>match ents.contains x.1 with | true=> ∃fp,lT Pg G M n x.1 x.2 fp fun r M'=>K r M' fp | false=>False:=h
    unfold eT at h;obtain⟨x,h1,h2,h3⟩:=(af.rd fun fv=>af.rds fun vs=>by cases fv <;> first | exact af.ret _ | exact af.bad) _ h;split at h2
    ·obtain⟨fp,args',M0,n0,res,M1,n1,a1,σ,bs,a2,a3,a4,a8,a5,a6,a7⟩:=h2;exact⟨_,_,_,a7⟩
    ·exact h2.elim
   | _=>exact h.elim
  | _=>exact h.elim
theorem H3 {rf:Bool} {K:List Nat→VE→VM→Prop} (h:rX Pg T N ents G ops rf o K E M n): ∃fp E1 M1,K fp E1 M1∧cW Pg T N ents G ops rf o n fp (VE.get E) (VM.get M) (VE.get E1) (VM.get M1):=by
 have run: ∀{E2:VE},VE.get E2=VE.get E→Cc ops o (VE.get E)=some true→(oU Pg T ents G rf o E2 M n fun r M fp=>dP N o.dst r E2 fun E=>K fp E M)→∃fp E1 M1,K fp E1 M1∧cW Pg T N ents G ops rf o n fp (VE.get E) (VM.get M) (VE.get E1) (VM.get M1):=by
  intro E2 he hg h;have hd: ∀d,o.dst=some d→d < N:=by obtain⟨r,M',fp,h1⟩:=Co h;exact H0 h1
  obtain⟨r,M',fp,h1,h2⟩:=FO (_D:=E2) h (by rw [he];exact hg) hd;obtain⟨E1,h3,h4,h5⟩:=zX h1;rw [he] at h2 h5;rw [← h5] at h2;exact⟨fp,E1,M',h3,h2⟩
 have skip: ∀{E2:VE},VE.get E2=VE.get E→Cc ops o (VE.get E)=some false→(dP N o.dst .undef E2 fun E'=>K (bif rf then [] else numsO (VE.get E) o.op.operands.toList) E' M)→∃fp E1 M1,K fp E1 M1∧cW Pg T N ents G ops rf o n fp (VE.get E) (VM.get M) (VE.get E1) (VM.get M1):=by
  intro E2 he hg h;obtain⟨E1,h3,h4,h5⟩:=zX h;rw [he] at h5;cases rf with
  | false=>exact ⟨_,E1,M,h3, .undef,h4,h5, .none,⟨false,hg,fun h=>(nomatch h),fun _=>⟨rfl,rfl⟩⟩,rfl,rfl⟩
  | true=>exact ⟨_,E1,M,h3, .undef,h4,h5,false,hg,fun h=>(nomatch h),fun _=>⟨rfl,rfl⟩⟩
 unfold rX at h;split at h
 ·rename_i hg;exact run rfl (by simp [Cc,hg]) h
 ·rename_i j want hg;split at h
  ·exact h.elim
  ·rename_i s hj;split at h
   ·rename_i t ht;by_cases hw:t=want
    ·exact run (zY (by rw [ht,hw])) (by simp [Cc,hg,hj,ht,hw]) (h.1 hw)
    ·have hw':t= !want:=by cases t <;> cases want <;> simp_all
     exact skip (zY (by rw [ht,hw'])) (by simp [Cc,hg,hj,ht,hw]) (h.2 hw')
   ·rename_i ht;exact skip rfl (by simp [Cc,hg,hj,ht]) h
   ·exact h.elim
def PX (n n':Nat) (L:List pV):Prop:=(L.map (·.n)).Nodup∧∀x∈L,n≤x.n∧x.n < n'
theorem ql: ∀{L:List (Nat×Bool)} {A:List pV} {K:VK} {E:VE} {M:VM} {n:Nat},aG Pg T N ents G ops L A K E M n→
  ∃D E1 M1,gw ops (A.reverse ++ D) (n + L.length)=true∧PX n (n + L.length) D∧K E1 M1 (n + L.length)∧HX Pg T N ents G ops D (VE.get E) (VM.get M) (VE.get E1) (VM.get M1)
 | [],A,K,E,M,n,h=>⟨[],E,M,by simpa using h.1,⟨List.nodup_nil,fun _ h=>nomatch h⟩,h.2,rfl,rfl⟩
 | x :: L,A,K,E,M,n,h=>by
  unfold aG at h
  split at h
  ·rename_i o ho
   obtain⟨fp,E1,M1,h1,h2⟩:=H3 h
   obtain⟨D,E2,M2,h3,h5,h6,h7⟩:=ql h1
   refine⟨⟨x.1,n,x.2,fp⟩ :: D,E2,M2,by rw [b₀,show n + (L.length + 1)=n + 1 + L.length by omega];simpa using h3,⟨List.nodup_cons.2 ⟨fun hm=>?_,h5.1⟩,fun y hy=>?_⟩,by rw [b₀,show n + (L.length + 1)=n + 1 + L.length by omega];exact h6,o,_,_,ho,h2,h7⟩
   ·obtain⟨y,hy,he⟩:=b₆.1 hm
    have:=(h5.2 y hy).1
    simp only at he
    omega
   ·rcases b₂.1 hy with rfl | hy
    ·simp
    ·have:=h5.2 y hy
     simp only [b₀]
     omega
  ·obtain⟨D,E2,M2,h3,h5,h6,h7⟩:=ql h
   have e:n + (x :: L).length=n + 1 + L.length:=by rw [b₀];omega
   rw [e]
   exact⟨D,E2,M2,h3,⟨h5.1,fun y hy=>by have:=h5.2 y hy;omega⟩,h6,h7⟩
end
end
section
inductive Rs (n0:Nat) (K:VK):VE→VM→Nat→Prop
 | go {E:VE} {M:VM} {n:Nat} (h:K E M n):Rs n0 K E M n
 | re {E:VE} {M:VM} {n:Nat} (E':VE) (M':VM) (n':Nat) (h:iL n0 E' M' n' E M) (k:K E' M' n'):Rs n0 K E M n
section
variable (Pg:Program) (T:bh) (N:Nat) (ents:List FuncId) (G:GS) (n0:Nat)
def vC:Code→(Exit→VK)→VK
 | .skip,Q,E,M,n=>Q .normal E M n
 | .region _ ops draw,Q,E,M,n=>match draw with
  | false=>aj Pg T N ents G ops ops.toList (Q .normal) E M n
  | true=> ∃L:List (Nat×Bool),aG Pg T N ents G ops L [] (Q .normal) E M n
 | .seq x y,Q,E,M,n=>vC x (fun e E M n=>match e with | .normal=>Rs n0 (vC y Q) E M n | e=>Q e E M n) E M n
 | .cond c x y,Q,E,M,n=>match iU (VE.get E) c with
  | some (.bool t)=>(t=true→vC x Q E M n)∧(t=false→vC y Q E M n)
  | _=>False
 | .block id c,Q,E,M,n=>vC c (fun e E M n=>match e with | .exit i=>(bif a₆ i id then Q .normal E M n else Q (.exit i) E M n) | e=>Q e E M n) E M n
 | .loop c,Q,E,M,_=> ∃(X:Type) (E':X→VE) (M':X→VM) (n':Nat) (I:X→Prop) (μ:X→Nat),
   (∃x,I x∧iL n0 (E' x) (M' x) n' E M)∧
   ∀x,I x→vC c (fun e E1 M1 n1=>match e with | .normal=> ∃x',I x'∧μ x' < μ x∧iL n0 (E' x') (M' x') n' E1 M1 | e=>Q e E1 M1 n1) (E' x) (M' x) n'
 | .exit id,Q,E,M,n=>Q (.exit id) E M n
 | .ret,Q,E,M,n=>Q .ret E M n
 | .label _,Q,E,M,n=>Q .normal E M n
 | _,_,_,_,_=>False
def kV:List MV→MV
 | [v] =>v
 | vs=> .tup vs
def dW (M:VM) (E:VE):List ResultVar→(List MV→Prop)→Prop
 | [],K=>K []
 | .tmp t :: l,K=>match VE.get E t with
  | some v=>dW M E l fun r=>K (v :: r)
  | none=>False
 | .cell p ty :: l,K=>match VE.get E p with
  | some p=>(gq T (VM.get M) ty p).runP fun x=>dW M E l fun r=>K (x.1 :: r)
  | none=>False
def H4 (rs:List ResultVar) (R:MV→Prop):Exit→VK:=fun e E M _=>match e with
 | .ret | .normal=>dW T M E rs fun vs=>(fJ (VM.get M) vs).runP fun x=>R (kV x.1)
 | _=>False
def MK (rs:List ResultVar) (res:MV) (M1:VM) (n1:Nat):Exit→VK:=fun e E M _=>match e with
 | .ret | .normal=>dW T M E rs fun vs=> ∃(rv:List MV) (σ bs:List (Nat×Nat)),kV rv=res∧eh n0 rv M1 n1 vs M σ bs
 | _=>False
def DY (rs:List ResultVar) (Φ:MV→VM→Nat→Prop):Exit→VK:=fun e E M _=>match e with
 | .ret | .normal=>dW T M E rs fun vs=> ∃(res:MV) (M1:VM) (n1:Nat),Φ res M1 n1∧∃(rv:List MV) (σ bs:List (Nat×Nat)),kV rv=res∧eh n0 rv M1 n1 vs M σ bs
 | _=>False
end
section
variable {ops:Array Oper} {e:Nat→Option MV} {F F':Nat→Prop} {Pg:Program} {T:bh} {N:Nat} {ents:List FuncId} {G:GS} {w0 w w':World} {ex0:Fo} {P0 P:bE} {adr:er} {E:VE} {M:VM} {m:FM} {n:Nat} {a:Act} {r:MV} {u:Value} {δ:Dl}
def H5 (N:Nat) (w0:World) (ex0:Fo) (P0:bE) (Q:Exit→VK):Exit→Act→World→Prop:=fun e a w=> ∃E M n,Q e E M n∧oK N w0 ex0 P0 (VE.get E) (VM.get M) n a w
theorem ke.drew (hs:ke N w0 ex0 P0 e m F a w):ke N w0 ex0 P0 e m F a { w with drawn:=w.drawn + 1 }:=by
 obtain⟨P,adr,hI,hE,ha1,ha2,ha3⟩:=hs.ex;have hb:Below w.heap.size w { w with drawn:=w.drawn + 1 }:=⟨rfl,rfl,rfl,c₅ _,fun _ _=>rfl⟩;refine⟨⟨hY w { w with drawn:=w.drawn + 1 } P,adr,hI.below hb,fun t v ht=>?_,ha1,⟨ha2.in_,ha2.old,ha2.keep.trans (bj.below hI.prot hb)⟩,fun b o ho=>?_⟩,hs.fresh,hs.ge,⟨hs.since.os,hs.since.tape,hs.since.output,hs.since.size,hs.since.block⟩,hs.defers,hs.size⟩
 ·obtain⟨u,h1,h2⟩:=hE t v ht;exact⟨u,h1,h2.keep (bj.below hI.prot hb)⟩
 ·rcases ho with h | h
  ·exact ha3 b o h
  ·exact .inr (.inl (c₂ hs.since.size h.1))
theorem ke.mono (hs:ke N w0 ex0 P0 e m F a w) (hF: ∀c,F' c→F c):ke N w0 ex0 P0 e m F' a w:=by
 obtain⟨P,adr,hI,hE,ha1,ha2,ha3⟩:=hs.ex;exact⟨⟨P,adr,hI,hE,fun c hc=>ha1 c (hF c hc),ha2,ha3⟩,fun c hc=>hs.fresh c (hF c hc),fun c hc=>hs.ge c (hF c hc),hs.since,hs.defers,hs.size⟩
theorem oV {M':VM} {n':Nat} {w':World} {P':bE} {adr':er} (hd:a.defers= []) (hz:a.tmps.size=N) (hI:aU w' P' adr' (VM.get M')) (hE:fX w' P' adr' (VE.get E) a) (hr:aJ w' P' adr' r u) (h1: ∀c,n'≤c→adr' c=none) (h2:iV w0 ex0 P0 w' P' adr')
  (h3: ∀b o,P' b o→P0 b o∨w0.heap.size≤b∨ex0.ex b) (h4: ∀c,n'≤c→VM.get M' c=none) (h5:ex0.n0≤n') (h6:bo ex0.ex w0 w') {dst:Option Tmp} {K:VE→Prop} (hK:dP N dst r E K): ∃E',K E'∧oK N w0 ex0 P0 (VE.get E') (VM.get M') n' (a.put dst u) w':=by
 unfold dP at hK
 split at hK
 ·exact⟨E,hK,⟨P',adr',hI,hE,h1,h2,h3⟩,h4,h5,h6,hd,hz⟩
 ·rename_i d
  split at hK
  ·rename_i hlt
   have hlt:d < N:=by simpa [c₆] using hlt
   exact⟨_,hK,⟨P',adr',hI,hE.put hz hlt hr,h1,h2,h3⟩,h4,h5,h6,hd,by simp [Act.put,hz]⟩
  ·exact hK.elim
theorem Cp {o:Oper} {k:Nat} (hk:qg Pg E M o=some k) (hI:aU w P adr (VM.get M)) (hE:fX w P adr (VE.get E) a):(execOp a.eval o).run Pg w= .ok (.value (.int .i64 k)) w:=by
 obtain⟨dst,op,ty,pos,after,guard⟩:=o;unfold qg at hk;split at hk
 ·rename_i c hop;obtain⟨callee,args,ats⟩:=c;have hop:op= .call ⟨callee,args,ats⟩:=hop;subst hop;split at hk
  ·rename_i hcl;have hcl:callee= .builtin .len:=hcl;subst hcl;split at hk
   ·rename_i x t hx ht;have hx:args.toList= [x] :=hx;have ht:ats.toList= [t] :=ht;have hargs:args= #[x] :=by rw [← Array.toList_inj];exact hx
    have hats:ats= #[t] :=by rw [← Array.toList_inj];exact ht
    subst hargs;subst hats;split at hk
    ·rename_i c hc;split at hk
     ·rename_i b hb;split at hk
      ·rename_i ks vs hl;split at hk
       ·rename_i kt et hu;split at hk;rotate_left
        ·cases hk
        rename_i hkv;injection hk with hk
        subst hk;obtain⟨g,hg,hv⟩:=(sa hE hc).mp_;obtain⟨clk,es,hw,hEn⟩:=xy hI hb hl hg hkv;have hlen:=hEn.len.1;have hr:(Builtin.len_ #[t] ty #[.map (some g)]).run Pg w= .ok (goInt es.size) w:=by
         simp [Builtin.len_,run_underlying hu,MapKept.run_getObj_map hw]
        have e:execOp a.eval ⟨dst, .call ⟨.builtin .len, #[x], #[t]⟩,ty,pos,after,guard⟩=builtin .len #[t] ty ((#[x] :Array Operand).map fun | .const _=>true | _=>false) ((#[x] :Array Operand).map a.eval):=by
         simp [execOp,resolve,invoke];rfl
        have h2:(builtin .len #[t] ty ((#[x] :Array Operand).map fun | .const _=>true | _=>false) #[.map (some g)]).run Pg w= .ok (.value (goInt es.size)) w:=by
         show(do pure (.value (← Builtin.len_ #[t] ty #[.map (some g)])):Sem Next).run Pg w=_
         rw [Sem.run_bind,hr];rfl
        rw [e];have h3:((#[x] :Array Operand).map a.eval)= #[.map (some g)] :=by simp [hv]
        rw [h3,h2,← hlen];rfl
       ·cases hk
      ·cases hk
     ·cases hk
    ·cases hk
   ·cases hk
  ·cases hk
 ·cases hk
theorem H6 (hS:jU Pg T ents G w0 ex0) {o:Oper} {K:VK} {next:Act→World→Prop} {Q:Exit→Act→World→Prop}
  (h:xE Pg T N ents G ops o K E M n) (hs:oK N w0 ex0 P0 (VE.get E) (VM.get M) n a w) (hn: ∀E M n a w,K E M n→oK N w0 ex0 P0 (VE.get E) (VM.get M) n a w→next a w) :
  if Region.wanted o (yielded ops a.tmps) then o.wp Pg a w next Q∨(o.asks Pg a w∧LetsOut Q) else next (a.put o.dst undef) w:=by
 obtain⟨P,adr,hI,hE,ha1,ha2,ha3⟩:=hs.ex
 have run: ∀{E2:VE},fX w P adr (VE.get E2) a→(sZ Pg T ents G o E2 M n fun r M n=>dP N o.dst r E2 fun E=>K E M n)→o.wp Pg a w next Q:=by
  intro E2 hE2 h
  unfold sZ at h
  split at h
  ·rename_i k neg hq
   unfold xD at hq
   split at hq
   ·rename_i op t x ty' hop
    split at hq
    ·rename_i k' l hx
     split at hq
     ·rename_i e es hd
      have hp:=sa hE2 hx
      obtain⟨A,cap,es',parts,e1,_,_,_,h4,_⟩:=hp.sl_
      have hc:jK T t (.const (.slice none 0 0)) (.val (a.eval x)) (.val (.slice none 0 0))=some A.isNone:=by
       rw [e1]
       cases A with
       | none=>obtain ⟨q1,q2⟩:=h4 rfl;subst q1;subst q2;simp [jK,hd]
       | some _=>simp [jK,hd]
      obtain⟨r1,r2⟩:=sC (xo:=x) (P:=Pg) hS.seat.tab hc w
      have hA:A.isNone=true→k'=0:=fun hA=>(h4 (by simpa using hA)).1
      obtain⟨dst,op',ty,pos,after,guard⟩:=o
      have hop:op'= .binOp op t x (.const (.slice none 0 0)) ty':=hop
      subst hop
      have fin: ∀(bb:Bool),(do eqGuard op t x (.const (.slice none 0 0)) (a.eval x) (.slice none 0 0);binOp op t (a.eval x) (.slice none 0 0):Sem Value).run Pg w= .ok (.bool bb) w→(dP N dst (.bool bb) E2 fun E=>K E M (n + 1))→(⟨dst, .binOp op t x (.const (.slice none 0 0)) ty',ty,pos,after,guard⟩:Oper).wp Pg a w next Q:=by
       intro bb hr hk
       have hres:=E8.val (a:=a) (o:=⟨dst, .binOp op t x (.const (.slice none 0 0)) ty',ty,pos,after,guard⟩) (Q:=fun u w'=>u= .bool bb∧w'=w) _ rfl hr ⟨rfl,rfl⟩
       obtain⟨E',q1,q2⟩:=oV (n':=n + 1) hs.defers hs.size hI hE2 (.val [_] .bool) (fun c hc=>ha1 c om) ha2 ha3 (fun c hc=>hs.fresh c om) (by have:=hs.ge;omega) hs.since hk
       unfold Oper.wp
       rcases hres with ⟨u,w',p1,rfl,rfl⟩ | ⟨w',p1,p2,_⟩
       ·rw [p1];exact hn _ _ _ _ _ q1 q2
       ·cases p2
      split at hq
      ·injection hq with hq;injection hq with hq1 hq2;subst hq1;subst hq2
       exact fin _ r1 (h A.isNone hA)
      ·injection hq with hq;injection hq with hq1 hq2;subst hq1;subst hq2
       exact fin _ r2 (h A.isNone hA)
      ·cases hq
     ·cases hq
    ·cases hq
   ·cases hq
  have old:(vH Pg T ents G o E2 M n fun r M=>dP N o.dst r E2 fun E=>K E M (n + 1))→o.wp Pg a w next Q:=by
   intro h
   refine K0 hS h hI ha1 hs.fresh hE2 hs.since fun r δ u w' hk hp=>?_
   obtain⟨E',h1,h2⟩:=hs.post hI hE2 ha1 ha2 ha3 hp hk
   exact hn _ _ _ _ _ h1 h2
  obtain⟨dst,op,ty,pos,after,guard⟩:=o
  cases op with
  | call c=>
   obtain⟨callee,args,ats⟩:=c
   cases callee with
   | builtin b=>
    rcases h with h | ⟨k,hk,h⟩
    ·exact old h
    ·have hrun:=Cp hk hI hE2
     obtain⟨E',q1,q2⟩:=oV (n':=n + 1) hs.defers hs.size hI hE2 (.val [_] .int) (fun c hc=>ha1 c om) ha2 ha3 (fun c hc=>hs.fresh c om) (by have:=hs.ge;omega) hs.since h
     unfold Oper.wp
     rw [hrun]
     exact hn _ _ _ _ _ q1 q2
   | invoke r n=>exact old h
   | value f=>
    rcases h with h | h
    ·exact old h
    ·unfold dG at h
     obtain⟨pf,h,hpf⟩:=bC hE2 h
     obtain⟨ps,h,hps⟩:=iZ hE2 h
     cases pf with
     | fn f0 caps=>
      generalize hu:a.eval f=uf at hpf
      cases hpf with
      | val cs hfn=>
       cases hfn with
       | fn parts hpl hpr=>
        have hall:=hps.app (cD.of_parts hpl hpr)
        have hex: ∀w1,(execOp a.eval ⟨dst, .call ⟨.value f,args,ats⟩,ty,pos,after,guard⟩).run Pg w1=(callFunc f0 (args.toList.map a.eval ++ b₇ valM caps parts).toArray).run Pg w1:=fun w1=>by
         have hmap:args.map a.eval=(args.toList.map a.eval).toArray:=jD _ _
         simp [execOp,resolve,hu,valM,MV.isAgg,Deferred.ofValue,invoke,hmap]
        replace h:(match ents.contains f0 with | true=>ji Pg G vJ M n f0 (ps ++ caps) (fun r M n=>dP N dst r E2 fun E=>K E M n) | false=>ji Pg G zt M n f0 (ps ++ caps) (fun r M n=>dP N dst r E2 fun E=>K E M n)):=h
        split at h
        ·rename_i hc
         have hrun:=(hex w).trans (hS.seat.enters f0 (by simpa using hc) (args.toList.map a.eval ++ b₇ valM caps parts).toArray w)
         unfold Oper.wp
         rw [hrun]
         refine(wj (C:=fun P f a w Q=>Calls P f a w Q) (fun h k=>h.mono k) hS h hs.since hs.fresh hs.ge hI hE2 ha1 ha2 ha3 hall).mono ?_
         rintro e w' ⟨v,rfl,r,M',n',hk,P',adr',q1,q2,q3,q4,q5,q6,q7,q8,q9⟩
         obtain⟨E',h1,h2⟩:=oV hs.defers hs.size q1 q2 q3 q4 q5 q6 q7 q8 q9 hk
         exact hn _ _ _ _ _ h1 h2
        ·obtain⟨v0,w',hr,v,he,r,M',n',hk,P',adr',q1,q2,q3,q4,q5,q6,q7,q8,q9⟩:=wj (C:=sY) (fun h k=>h.mono k) hS h hs.since hs.fresh hs.ge hI hE2 ha1 ha2 ha3 hall
         injection he with he
         subst he
         have hrun:=(hex w).trans hr
         unfold Oper.wp
         rw [hrun]
         obtain⟨E',h1,h2⟩:=oV hs.defers hs.size q1 q2 q3 q4 q5 q6 q7 q8 q9 hk
         exact hn _ _ _ _ _ h1 h2
     | _=>exact h.elim
  | _=>exact old h
 have skip: ∀{E2:VE},fX w P adr (VE.get E2) a→(dP N o.dst .undef E2 fun E=>K E M (n + 1))→next (a.put o.dst undef) w:=by
  intro E2 hE2 h
  obtain⟨E',h1,h2⟩:=hs.post (δ:= .none) hI hE2 ha1 ha2 ha3 (bz.pure hI (ha1 n (c₅ _)) .undef) h
  exact hn _ _ _ _ _ h1 h2
 unfold xE at h
 split at h
 ·rename_i hg
  rw [if_pos (by simp [Region.wanted,hg])]
  exact .inl (run hE h)
 ·rename_i j want hg
  split at h
  ·exact h.elim
  ·rename_i s hj
   split at h
   ·rename_i t ht
    have hv:=hs.know ht
    have hy:yielded ops a.tmps j=some t:=by simp [yielded,hj,hv]
    by_cases hw:t=want
    ·rw [if_pos (by simp [Region.wanted,hg,hy,hw])]
     exact .inl (run (hE.know (by rw [ht,hw])) (h.1 hw))
    ·have hw':t= !want:=by cases t <;> cases want <;> simp_all
     rw [if_neg (by simp [Region.wanted,hg,hy,hw])]
     exact skip (hE.know (by rw [ht,hw'])) (h.2 hw')
   ·rename_i ht
    obtain⟨v,hv1,hv2⟩:=hE s _ ht
    have hv:v=undef:=hv2.undef_
    subst hv
    have hy:yielded ops a.tmps j=none:=by simp [yielded,hj,hv1,undef]
    rw [if_neg (by simp [Region.wanted,hg,hy])]
    exact skip hE h
   ·exact h.elim
theorem zZ (hS:jU Pg T ents G w0 ex0) (ops:Array Oper): ∀(l:List Oper) {K:VK} {E:VE} {M:VM} {n:Nat} {a:Act} {w:World} {Q:Exit→Act→World→Prop},
  aj Pg T N ents G ops l K E M n→oK N w0 ex0 P0 (VE.get E) (VM.get M) n a w→(∀E M n a w,K E M n→oK N w0 ex0 P0 (VE.get E) (VM.get M) n a w→Q .normal a w)→wpList Pg ops Q l a w
 | [],_,E,M,n,a,w,_,h,hs,hQ=>hQ E M n a w h hs
 | o :: rest,K,E,M,n,a,w,Q,h,hs,hQ=>by
  replace h:Rt n (fun E M=>xE Pg T N ents G ops o (aj Pg T N ents G ops rest K) E M n) E M:=h
  have key: ∀{E:VE} {M:VM},Rt n (fun E M=>xE Pg T N ents G ops o (aj Pg T N ents G ops rest K) E M n) E M→oK N w0 ex0 P0 (VE.get E) (VM.get M) n a w→∃E' M',xE Pg T N ents G ops o (aj Pg T N ents G ops rest K) E' M' n∧oK N w0 ex0 P0 (VE.get E') (VM.get M') n a w:=by
   intro E M h
   induction h with
   | go h=>intro hs;exact⟨_,_,h,hs⟩
   | re E' M' h1 _ ih=>intro hs;exact ih (hs.frz h1)
  obtain⟨E',M',h',hs'⟩:=key h hs
  exact H6 hS (next:=wpList Pg ops Q rest) (Q:=Q) h' hs' fun _ _ _ _ _ h hs=>zZ hS ops rest h hs hQ
theorem Lh (hS:jU Pg T ents G w0 ex0) {id:Nat} {L:List (Nat×Bool)} {Q:Exit→VK} (h:aG Pg T N ents G ops L [] (Q .normal) E M n) (hs:oK N w0 ex0 P0 (VE.get E) (VM.get M) n a w):(Code.region id ops true).wp Pg (H5 N w0 ex0 P0 Q) a w:=by
 obtain⟨D,E1,M1,hok,⟨hnd,hnb⟩,hq,hr⟩:=ql h;rw [List.reverse_nil,List.nil_append] at hok;simp only [gw,a₀,a₇] at hok;obtain⟨⟨⟨hls,hall⟩,hlen⟩,htwo⟩:=hok;obtain⟨hP,hA⟩:=wx hls;refine wp_region_any hS.seat.mixed ?_;refine Nr (Z:=fun c=>n + L.length≤c) hS (fun a w hs'=>⟨E1,M1,_,hq,hs'.toSim fun c hc=>hc⟩) ops.size D ⟨M,rfl⟩ hr hP hA (OM htwo hnd) (fun x hx c ho hz=>?_) ?_ (fun k hk=>?_) sm (fun k o ho hl=>?_) ?_
 ·have h1:=(hnb x hx).2;replace hz:n + L.length≤c:=hz;rcases ho with rfl | ⟨rfl,ho⟩
  ·omega
  ·have:=(qk htwo hx ho).1;omega
 ·refine(hs.toS.drew).mono fun c hc=>?_
  rcases hc with ⟨x,hx,ho⟩ | hc
  ·show n≤c
   have:=(hnb x hx).1;rcases ho with rfl | ⟨rfl,_⟩ <;> omega
  ·show n≤c
   replace hc:n + L.length≤c:=hc;omega
 ·have h1:(Array.replicate ops.size false).getD k true=false:=by simp [Array.getD,hk]
  have h2:k∈D.map (·.k):=by simpa using hall k (by simpa using hk)
  exact⟨fun _=>h2,fun _=>h1⟩
 ·exfalso;by_cases hk:k < ops.size
  ·simp [Array.getD,hk] at hl
  ·simp [Array.getD,hk] at hl
 ·simpa using hlen
theorem H7 (hS:jU Pg T ents G w0 ex0): ∀(c:Code) {Q:Exit→VK} {E:VE} {M:VM} {n:Nat} {a:Act} {w:World},
  vC Pg T N ents G ex0.n0 c Q E M n→oK N w0 ex0 P0 (VE.get E) (VM.get M) n a w→c.wp Pg (H5 N w0 ex0 P0 Q) a w:=by
 intro c
 induction c with
 | skip=>intro Q E M n a w h hs;exact wp_skip ⟨E,M,n,h,hs⟩
 | region id ops draw=>
  intro Q E M n a w h hs
  cases draw with
  | false=>exact wp_region_list (zZ hS ops _ h hs fun E M n a w hk hs=>⟨E,M,n,hk,hs⟩)
  | true=>
   obtain⟨L,h⟩:=h
   exact Lh hS h hs
 | seq x y ihx ihy=>
  intro Q E M n a w h hs
  refine wp_seq (Code.wp_mono (fun e a w hq=>?_) (ihx h hs))
  obtain⟨E',M',n',hq,hs'⟩:=hq
  cases e with
  | normal=>
   cases hq with
   | go h=>exact ihy h hs'
   | re E2 M2 n2 h k=>exact ihy k (hs'.matched h)
  | _=>exact ⟨E',M',n',hq,hs'⟩
 | cond c x y ihx ihy=>
  intro Q E M n a w h hs
  simp only [vC] at h
  split at h
  ·rename_i t ht
   obtain⟨P,adr,hI,hE,_⟩:=hs.ex
   have hv:=(sa hE ht).bool_
   exact wp_cond_split hv (fun ht=>ihx (h.1 ht) hs) (fun ht=>ihy (h.2 ht) hs)
  ·exact h.elim
 | block id c ih=>
  intro Q E M n a w h hs
  refine wp_block (Code.wp_mono (fun e a w hq=>?_) (ih h hs))
  obtain⟨E',M',n',hq,hs'⟩:=hq
  cases e with
  | exit i=>
   by_cases hi:i=id
   ·subst hi
    simp at hq
    simp only [Exit.inBlock,if_true]
    exact⟨E',M',n',hq,hs'⟩
   ·simp only [fT hi,cond_false] at hq
    simp only [Exit.inBlock,hi,if_false]
    exact⟨E',M',n',hq,hs'⟩
  | _=>exact ⟨E',M',n',hq,hs'⟩
 | loop c ih=>
  intro Q E M n a w h hs
  obtain⟨X,E',M',n',I,μ,⟨x0,hI0,hm0⟩,h1⟩:=h
  have hs0:=hs.matched hm0
  intro b k cs
  have key: ∀j x a w,μ x=j→I x→oK N w0 ex0 P0 (VE.get (E' x)) (VM.get (M' x)) n' a w→
    ∃e a' w',H5 N w0 ex0 P0 Q e a' w'∧Arrives Pg (lone (b.at a (.code c :: .inLoop c :: k)) cs w) b k cs e a' w':=by
   intro j
   induction j using Nat.strongRecOn with
   | _ j ihn=>
    intro x a w hn hI hs
    obtain⟨e,a₁,w₁,hq,harr⟩:=ih (h1 x hI) hs b (.inLoop c :: k) cs
    obtain⟨E1,M1,n1,hq,hs1⟩:=hq
    cases e with
    | normal=>
     obtain⟨x',hI',hlt,hm⟩:=hq
     obtain⟨e₂,a₂,w₂,hq₂,harr₂⟩:=ihn (μ x') (hn▸hlt) x' a₁ w₁ rfl hI' (hs1.matched hm)
     exact⟨e₂,a₂,w₂,hq₂, .of_steps (Steps.trans harr (.one step_inLoop)) harr₂⟩
    | exit id=>exact ⟨_,a₁,w₁,⟨E1,M1,n1,hq,hs1⟩, .pass (x:= .inLoop c) rfl (fun _ _=> .inl sm) harr⟩
    | goto l=>exact ⟨_,a₁,w₁,⟨E1,M1,n1,hq,hs1⟩, .pass (x:= .inLoop c) rfl (fun _ _=> .inl sm) harr⟩
    | ret=>exact ⟨_,a₁,w₁,⟨E1,M1,n1,hq,hs1⟩, .pass (x:= .inLoop c) rfl (fun _ _=> .inl sm) harr⟩
    | panic ch=>exact ⟨_,a₁,w₁,⟨E1,M1,n1,hq,hs1⟩, .pass (x:= .inLoop c) rfl (fun _ _=> .inl sm) harr⟩
    | outgrown=>exact ⟨_,a₁,w₁,⟨E1,M1,n1,hq,hs1⟩, .pass (x:= .inLoop c) rfl (fun _ _=> .inl sm) harr⟩
  obtain⟨e,a',w',hq,harr⟩:=key _ x0 a w rfl hI0 hs0
  exact⟨e,a',w',hq, .of_steps (.one step_loop) harr⟩
 | exit id=>intro Q E M n a w h hs;exact wp_exit ⟨E,M,n,h,hs⟩
 | ret=>intro Q E M n a w h hs;exact wp_ret ⟨E,M,n,h,hs⟩
 | label l=>intro Q E M n a w h hs;exact wp_label ⟨E,M,n,h,hs⟩
 | rangeFunc=>intro Q E M n a w h;exact h.elim
 | scope=>intro Q E M n a w h;exact h.elim
 | goto=>intro Q E M n a w h;exact h.elim
 | refuse=>intro Q E M n a w h;exact h.elim
theorem kf (hT:bP Pg T) (hI:aU w P adr (VM.get M)) (hE:fX w P adr (VE.get E) a): ∀{rs:List ResultVar} {K:List MV→Prop},dW T M E rs K→
  ∃(ps:List MV) (vs:List Value),vs.length=rs.length∧(∀(i:Nat) (r:ResultVar),rs[i]? =some r→∃v,vs[i]? =some v∧(sG a.tmps r).run Pg w= .ok v w)∧cD w P adr ps vs∧K ps
 | [],K,h=>⟨[],[],rfl,fun i r hi=>by simp at hi, .nil,h⟩
 | .tmp t :: l,K,h=>by
  unfold dW at h
  split at h
  ·rename_i p hp
   obtain⟨v,h1,h2⟩:=hE t p hp
   obtain⟨ps,vs,hl,hi,hr,hK⟩:=kf hT hI hE h
   refine⟨p :: ps,v :: vs,by simp [hl],fun i r hr=>?_, .cons h2 hr,hK⟩
   cases i with
   | zero=>simp at hr;subst hr;exact⟨v,rfl,by simp [sG,h1]⟩
   | succ i=>exact hi i r (by simpa using hr)
  ·exact h.elim
 | .cell p ty :: l,K,h=>by
  unfold dW at h
  split at h
  ·rename_i q hq
   obtain⟨uv,h1,h2⟩:=hE p q hq
   obtain⟨r0,v,h3,h4,h5⟩:=sM hT h h2 hI
   obtain⟨ps,vs,hl,hi,hr,hK⟩:=kf hT hI hE h3
   refine⟨r0 :: ps,v :: vs,by simp [hl],fun i r hr=>?_, .cons h5 hr,hK⟩
   cases i with
   | zero=>
    simp at hr
    subst hr
    refine⟨v,rfl,?_⟩
    have hg':a.tmps.getD p undef=uv:=by simp [h1]
    simp only [sG,hg']
    exact vB h4
   | succ i=>exact hi i r (by simpa using hr)
  ·exact h.elim
theorem xS {ps:List MV} {vs:List Value} (h:cD w P adr ps vs) (hv: ∀p∈ps,p.isVal=true):aJ w P adr (kV ps) (tup vs):=by
 obtain⟨parts,h1,h2,rfl⟩:=h.caps hv
 match ps,parts,h1,h2 with
 | [],[],_,_=>exact .tup [] rfl (fun j m u h=>by simp at h)
 | [p],[q],_,h2=>exact .val q (h2 0 p q rfl rfl)
 | p :: p' :: ps,q :: q' :: parts,h1,h2=>
  refine .tup (b₇ valM (p :: p' :: ps) (q :: q' :: parts)) (by rw [List.length_zipWith];simp at h1 ⊢;omega) fun j m u hj hu=>?_
  rw [List.getElem?_zipWith] at hu;rw [hj] at hu;cases hq:(q :: q' :: parts)[j]? with
  | none=>rw [hq] at hu;cases hu
  | some c=>
   rw [hq] at hu;injection hu with hu
   exact⟨c,h2 j m c hj hq,hu.symm⟩
theorem oW: ∀{l:List MV} {i t:Nat} {v:MV},VE.get (rU i l) t=some v→i≤t∧l[t - i]? =some v
 | [],i,t,v,h=>by simp [rU,VE.get] at h
 | x :: l,i,t,v,h=>by
  rw [rU,VE.get_cons] at h
  split at h
  ·rename_i e;subst e;injection h with h;subst h;simp
  ·rename_i e
   obtain⟨h1,h2⟩:=oW h
   refine⟨om,?_⟩
   rw [show t - i=(t - (i + 1)) + 1 by omega]
   simpa using h2
theorem cD.get: ∀{ps:List MV} {vs:List Value},cD w P adr ps vs→∀{i:Nat} {p:MV},ps[i]? =some p→∃v,vs[i]? =some v∧aJ w P adr p v
 | _,_, .nil,i,p,h=>by simp at h
 | _,_, .cons (p:=q) (v:=v) h t,i,p,hi=>by
  cases i with
  | zero=>simp at hi;subst hi;exact⟨v,rfl,h⟩
  | succ i=>simpa using t.get (i:=i) (by simpa using hi)
theorem cD.length: ∀{ps:List MV} {vs:List Value},cD w P adr ps vs→ps.length=vs.length
 | _,_, .nil=>rfl
 | _,_, .cons _ t=>by simp [t.length]
theorem FP {K:List MV×List (Nat×Nat)→Prop} {m:FM}: ∀{l:List MV},(fJ m l).runP K→(fJ m l).runP fun x=>K x∧∀p∈x.1,p.isVal=true:=by
 have one: ∀{p:MV} {K:MV×List (Nat×Nat)→Prop},(cT m p).runP K→(cT m p).runP fun x=>K x∧x.1.isVal=true:=by
  intro p K h;cases p <;> simp only [cT] at h ⊢
  case ms c es off n=>
   split at h
   ·split at h
    ·obtain⟨a1,l,a2,h⟩:=h;exact⟨a1,l,a2,h,rfl⟩
    ·exact h.elim
   ·exact h.elim
  case ptr c es k fo path=>
   split at h
   ·rename_i b hb;cases he:a₆ b.es es with
    | false=>rw [he] at h;exact h.elim
    | true=>
     rw [he] at h;obtain⟨v,q1,h⟩:=h;dsimp only at h;cases hf:v.idFree with
     | false=>rw [hf] at h;exact h.elim
     | true=>rw [hf] at h;exact⟨v,q1,by simp only [hf];exact⟨h,rfl⟩⟩
   ·exact h.elim
  case st l=>exact cY (aZ.bind_runP.1 h) fun _ h=>⟨h,rfl⟩
  case fn f l=>exact cY (aZ.bind_runP.1 h) fun _ h=>⟨h,rfl⟩
  case ifc t v=>exact iv (aZ.bind_runP.1 h) fun _ h=>⟨h,rfl⟩
  all_goals first | exact h.elim | exact⟨h,rfl⟩
 intro l
 induction l generalizing K with
 | nil=>intro h;exact⟨h,fun p hp=>nomatch hp⟩
 | cons q l ih=>
  intro h;simp only [fJ] at h ⊢;refine iv (one (aZ.bind_runP.1 h)) fun x hx=>?_
  refine cY (ih (aZ.bind_runP.1 hx.1)) fun y hy=>⟨hy.1,fun p hp=>?_⟩
  rcases b₂.1 hp with rfl | hp
  ·exact hx.2
  ·exact hy.2 p hp
theorem Cq (hS:Seat Pg T ents) {f:FuncId} {fn:Func} {c:Code} {rs:List ResultVar} (hf:Pg.funcs[f]? =some fn) (hb:fn.body=some c) (hrs:fn.results=rs.toArray) (h5:rs.length≤6) {args:List MV} (hn:args.length≤fn.ntmps) (hN:fn.ntmps=N) {res:MV}
  (h:vC Pg T N ents G 0 c (H4 T rs fun r=>r=res) (rU 0 args) [] 0):aD Pg G f args res:=by
 intro w P vals hg hP hargs
 have hSM:jU Pg T ents G w HH:=⟨hS,fun w' h=>G.stab w w' _ hg (fun _ h=>h.elim) h,fun _ h=>h.elim,fun g h=>G.lt w g hg h⟩
 have hlen:=hargs.length
 have h0:oK N w HH P (VE.get (rU 0 args)) (VM.get []) 0 { tmps:=vals.toArray ++ Array.replicate (fn.ntmps - vals.toArray.size) undef,defers:= [] } w:=by
  refine⟨⟨P,noAdr,⟨fun c b hc=>by simp [VM.get] at hc,fun c d b b' g hc=>by simp [VM.get] at hc,hP⟩,fun t v ht=>?_,fun _ _=>rfl,⟨fun c g hc=>(nomatch hc),fun c hc=>absurd hc (Nat.not_lt_zero c),bj.refl _ _ _⟩,fun b o h=> .inl h⟩,fun c _=>rfl,Nat.zero_le _,bo.refl _ _,rfl,by simp;omega⟩
  obtain⟨_,h2⟩:=oW ht
  rw [d₅] at h2
  obtain⟨u,h3,h4⟩:=hargs.get h2
  have hlt:=(c₁.1 h3).1
  refine⟨u,?_,h4⟩
  show(vals.toArray ++ Array.replicate (fn.ntmps - vals.toArray.size) undef)[t]? =some u
  rw [Array.getElem?_append_left (by simpa using hlt)]
  simpa using h3
 refine calls_of_wp hf hb (Code.wp_mono (fun e a w' hq=>?_) (H7 (ex0:=HH) hSM c h h0))
 obtain⟨E',M',n',hq,hs⟩:=hq
 have fin:dW T M' E' rs (fun vs=>(fJ (VM.get M') vs).runP fun x=>kV x.1=res)→
   a.defers= [] ∧∃v,(results fn a.tmps).run Pg w'= .ok v w'∧∃v',Ending.returned v= .returned v'∧aJ w' (hY w w' P) noAdr res v'∧Below w.heap.size w w':=by
  intro hq
  obtain⟨P',adr',hI,hE,ha1,ha2,ha3⟩:=hs.ex
  obtain⟨ps,vs,hl,hi,hr,hK⟩:=kf hS.tab hI hE hq
  obtain⟨l',bs,⟨hxr,hfree⟩,P2,h1,h2,h3,h4⟩:=qd (FP hK) hr hI
  refine⟨hs.defers,tup vs,lM hrs h5 hl hi,tup vs,rfl,?_,hs.since.below⟩
  rw [← hxr]
  refine(xS h4 hfree).keep ⟨fun b o hp=>?_,fun _ _ _=>rfl,fun _ _ h=>(nomatch h),fun _ _ _ _ h=>nomatch h⟩
  rcases h3 b o hp with hp' | ⟨c',hc'⟩
  ·rcases ha3 b o hp' with h | h | h
   ·exact .inl h
   ·exact .inr ⟨h,hI.prot b o hp'⟩
   ·exact h.elim
  ·rcases ha2.in_ c' b hc' with h | h
   ·exact .inr ⟨h,h1.prot b o hp⟩
   ·exact h.elim
 cases e with
 | normal=>exact fin hq
 | ret=>exact fin hq
 | _=>exact hq.elim
theorem bf (hS:Seat Pg T ents) {f:FuncId} {fn:Func} (hf:Pg.funcs[f]? =some fn) (N:Nat) {c:Code} {rs:List ResultVar} {args:List MV} {res:MV} (h:vC Pg T N ents G 0 c (H4 T rs fun r=>r=res) (rU 0 args) [] 0) (hb:fn.body=some c:=by rfl) (hrs:fn.results=rs.toArray:=by rfl) (h5:rs.length≤6:=by exact Nat.le_of_ble_eq_true rfl) (hn:args.length≤fn.ntmps:=by exact Nat.le_of_ble_eq_true rfl) (hN:fn.ntmps=N:=by rfl):aD Pg G f args res:=Cq hS hf hb hrs h5 hn hN h
theorem Cr (hS:Seat Pg T ents) {f:FuncId} {fn:Func} {c:Code} {rs:List ResultVar} (hf:Pg.funcs[f]? =some fn) (hb:fn.body=some c) (hrs:fn.results=rs.toArray) (h5:rs.length≤6) {args:List MV} (hn:args.length≤fn.ntmps) (hN:fn.ntmps=N) {M0:VM} {n0:Nat} (hM0:M0.all (fun x=>a₄ x.1 n0)=true) {res:MV} {M1:VM} {n1:Nat}
  (h:vC Pg T N ents G n0 c (MK T n0 rs res M1 n1) (rU 0 args) M0 n0):aL Pg G f args M0 n0 res M1 n1:=by
 intro w P adr vals hg hI0 hn0 hL hargs
 have hSM:jU Pg T ents G w ⟨fun g=> ∃c,adr c=some g,adr,n0,fun c g hc=>by
   rcases c₇ c n0 with h | h
   ·exact h
   ·rw [hn0 c h] at hc;cases hc⟩:=⟨hS,fun w' h=>G.stab w w' _ hg (fun g ⟨c,hc⟩=>hL c g hc) h,fun g ⟨c,hc⟩=>hL c g hc,fun g h=>G.lt w g hg h⟩
 have hlen:=hargs.length
 have h0:oK N w ⟨fun g=> ∃c,adr c=some g,adr,n0,fun c g hc=>by
   rcases c₇ c n0 with h | h
   ·exact h
   ·rw [hn0 c h] at hc;cases hc⟩ P (VE.get (rU 0 args)) (VM.get M0) n0 { tmps:=vals.toArray ++ Array.replicate (fn.ntmps - vals.toArray.size) undef,defers:= [] } w:=by
  refine⟨⟨P,adr,hI0,fun t v ht=>?_,hn0,⟨fun c g hc=> .inr ⟨c,hc⟩,fun c _=>rfl,bj.refl _ _ _⟩,fun b o h=> .inl h⟩,fun c hc=>qf hM0 hc,c₅ _,bo.refl _ _,rfl,by simp;omega⟩
  obtain⟨_,h2⟩:=oW ht
  rw [d₅] at h2
  obtain⟨u,h3,h4⟩:=hargs.get h2
  have hlt:=(c₁.1 h3).1
  refine⟨u,?_,h4⟩
  show(vals.toArray ++ Array.replicate (fn.ntmps - vals.toArray.size) undef)[t]? =some u
  rw [Array.getElem?_append_left (by simpa using hlt)]
  simpa using h3
 refine calls_of_wp hf hb (Code.wp_mono (fun e a w' hq=>?_) (H7 hSM c h h0))
 obtain⟨E',M',n',hq,hs⟩:=hq
 have fin:dW T M' E' rs (fun vs=> ∃(rv:List MV) (σ bs:List (Nat×Nat)),kV rv=res∧eh n0 rv M1 n1 vs M' σ bs)→
   a.defers= [] ∧∃v,(results fn a.tmps).run Pg w'= .ok v w'∧∃v',Ending.returned v= .returned v'∧∃P' adr',aU w' P' adr' (VM.get M1)∧aJ w' P' adr' res v'∧bj w w' P P' adr adr'∧(∀c,c < n0→adr' c=adr c)∧(∀c,n1≤c→adr' c=none)∧
   (∀c g,adr' c=some g→w.heap.size≤g∨∃c0,adr c0=some g)∧(∀b o,P' b o→P b o∨w.heap.size≤b∨∃c0,adr c0=some b)∧bo (fun g=> ∃c0,adr c0=some g) w w':=by
  intro hq
  obtain⟨P1,adr1,hI,hE,ha1,ha2,ha3⟩:=hs.ex
  obtain⟨ps,vs,hl,hi,hr,rv,σ,bs,hres,hok,hokb,hall,hrel,hmm⟩:=kf hS.tab hI hE hq
  have hσ:=jV hok
  obtain⟨P2,i1,i2,i3,i4⟩:=hI.frozen hokb
  obtain⟨r1,r2⟩:=iw i4 hrel (hr.kp i2)
  have hA:=(ha2.frozen i2).matched hσ
  refine⟨hs.defers,tup vs,lM hrs h5 hl hi,tup vs,rfl,P2,ff (cA n0 σ) adr1,i1.matched hσ i4 hmm,?_,hA.keep,fun c hc=>hA.old c hc,fun c hc=>jW hσ hc,fun c g hc=>hA.in_ c g hc,fun b o ho=>?_,hs.since⟩
  ·rw [← hres];exact xS r1 r2
  ·rcases i3 b o ho with h | ⟨c,h⟩
   ·exact ha3 b o h
   ·rcases ha2.in_ c b h with h | h
    ·exact .inr (.inl h)
    ·exact .inr (.inr h)
 cases e with
 | normal=>exact fin hq
 | ret=>exact fin hq
 | _=>exact hq.elim
theorem bU (hS:Seat Pg T ents) {f:FuncId} {fn:Func} (hf:Pg.funcs[f]? =some fn) (N:Nat) {c:Code} {rs:List ResultVar} {args:List MV} {M0:VM} {n0:Nat} {res:MV} {M1:VM} {n1:Nat} (h:vC Pg T N ents G n0 c (MK T n0 rs res M1 n1) (rU 0 args) M0 n0) (hb:fn.body=some c:=by rfl) (hrs:fn.results=rs.toArray:=by rfl) (h5:rs.length≤6:=by exact Nat.le_of_ble_eq_true rfl) (hn:args.length≤fn.ntmps:=by exact Nat.le_of_ble_eq_true rfl) (hN:fn.ntmps=N:=by rfl) (hM0:M0.all (fun x=>Nat.blt x.1 n0)=true:=by rfl):aL Pg G f args M0 n0 res M1 n1:=Cr hS hf hb hrs h5 hn hN hM0 h
theorem gR (hS:Seat Pg T ents) {f:FuncId} {fn:Func} {c:Code} {rs:List ResultVar} (hf:Pg.funcs[f]? =some fn) (hb:fn.body=some c) (hrs:fn.results=rs.toArray) (h5:rs.length≤6) {args:List MV} (hn:args.length≤fn.ntmps) (hN:fn.ntmps=N) {M0:VM} {n0:Nat} (hM0:M0.all (fun x=>a₄ x.1 n0)=true) {Φ:MV→VM→Nat→Prop}
  (h:vC Pg T N ents G n0 c (DY T n0 rs Φ) (rU 0 args) M0 n0):vJ Pg G f args M0 n0 Φ:=by
 intro w P adr vals hg hI0 hn0 hL hargs
 have hSM:jU Pg T ents G w ⟨fun g=> ∃c,adr c=some g,adr,n0,fun c g hc=>by
   rcases c₇ c n0 with h | h
   ·exact h
   ·rw [hn0 c h] at hc;cases hc⟩:=⟨hS,fun w' h=>G.stab w w' _ hg (fun g ⟨c,hc⟩=>hL c g hc) h,fun g ⟨c,hc⟩=>hL c g hc,fun g h=>G.lt w g hg h⟩
 have hlen:=hargs.length
 have h0:oK N w ⟨fun g=> ∃c,adr c=some g,adr,n0,fun c g hc=>by
   rcases c₇ c n0 with h | h
   ·exact h
   ·rw [hn0 c h] at hc;cases hc⟩ P (VE.get (rU 0 args)) (VM.get M0) n0 { tmps:=vals.toArray ++ Array.replicate (fn.ntmps - vals.toArray.size) undef,defers:= [] } w:=by
  refine⟨⟨P,adr,hI0,fun t v ht=>?_,hn0,⟨fun c g hc=> .inr ⟨c,hc⟩,fun c _=>rfl,bj.refl _ _ _⟩,fun b o h=> .inl h⟩,fun c hc=>qf hM0 hc,c₅ _,bo.refl _ _,rfl,by simp;omega⟩
  obtain⟨_,h2⟩:=oW ht
  rw [d₅] at h2
  obtain⟨u,h3,h4⟩:=hargs.get h2
  have hlt:=(c₁.1 h3).1
  refine⟨u,?_,h4⟩
  show(vals.toArray ++ Array.replicate (fn.ntmps - vals.toArray.size) undef)[t]? =some u
  rw [Array.getElem?_append_left (by simpa using hlt)]
  simpa using h3
 refine calls_of_wp hf hb (Code.wp_mono (fun e a w' hq=>?_) (H7 hSM c h h0))
 obtain⟨E',M',n',hq,hs⟩:=hq
 have fin:dW T M' E' rs (fun vs=> ∃(res:MV) (M1:VM) (n1:Nat),Φ res M1 n1∧∃(rv:List MV) (σ bs:List (Nat×Nat)),kV rv=res∧eh n0 rv M1 n1 vs M' σ bs)→
   a.defers= [] ∧∃v,(results fn a.tmps).run Pg w'= .ok v w'∧∃v',Ending.returned v= .returned v'∧∃(res:MV) (M1:VM) (n1:Nat),Φ res M1 n1∧∃P' adr',aU w' P' adr' (VM.get M1)∧aJ w' P' adr' res v'∧bj w w' P P' adr adr'∧(∀c,c < n0→adr' c=adr c)∧(∀c,n1≤c→adr' c=none)∧
   (∀c g,adr' c=some g→w.heap.size≤g∨∃c0,adr c0=some g)∧(∀b o,P' b o→P b o∨w.heap.size≤b∨∃c0,adr c0=some b)∧bo (fun g=> ∃c0,adr c0=some g) w w':=by
  intro hq
  obtain⟨P1,adr1,hI,hE,ha1,ha2,ha3⟩:=hs.ex
  obtain⟨ps,vs,hl,hi,hr,res,M1,n1,hΦ,rv,σ,bs,hres,hok,hokb,hall,hrel,hmm⟩:=kf hS.tab hI hE hq
  have hσ:=jV hok
  obtain⟨P2,i1,i2,i3,i4⟩:=hI.frozen hokb
  obtain⟨r1,r2⟩:=iw i4 hrel (hr.kp i2)
  have hA:=(ha2.frozen i2).matched hσ
  refine⟨hs.defers,tup vs,lM hrs h5 hl hi,tup vs,rfl,res,M1,n1,hΦ,P2,ff (cA n0 σ) adr1,i1.matched hσ i4 hmm,?_,hA.keep,fun c hc=>hA.old c hc,fun c hc=>jW hσ hc,fun c g hc=>hA.in_ c g hc,fun b o ho=>?_,hs.since⟩
  ·rw [← hres];exact xS r1 r2
  ·rcases i3 b o ho with h | ⟨c,h⟩
   ·exact ha3 b o h
   ·rcases ha2.in_ c b h with h | h
    ·exact .inr (.inl h)
    ·exact .inr (.inr h)
 cases e with
 | normal=>exact fin hq
 | ret=>exact fin hq
 | _=>exact hq.elim
theorem aa {f:FuncId} {args:List MV} {res:MV} (h:aD Pg G f args res):aL Pg G f args [] 0 res [] 0:=by
 intro w P adr vals hg hI hn hL hargs;have e:adr=noAdr:=by funext c;exact hn c (Nat.zero_le _)
 subst e;refine(h w P vals hg hI.prot hargs).mono ?_;rintro e w' ⟨v,rfl,h1,h2⟩;have hb:=bj.below (adr:=noAdr) hI.prot h2;refine⟨v,rfl,hY w w' P,noAdr,hI.below h2,h1,hb,fun _ _=>rfl,fun _ _=>rfl,fun c g hc=>(nomatch hc),fun b o ho=>?_,(bo.of_below h2).weak fun _ e=>e.elim⟩;rcases ho with h | h
 ·exact .inl h
 ·exact .inr (.inl h.1)
end
end
section
section
variable {Pg:Program} {T:bh} {N:Nat} {ents:List FuncId} {G:GS} {n0:Nat}
def aY (Pg:Program) (T:bh) (N:Nat) (ents:List FuncId) (G:GS) (n0:Nat) (y:Code) (Q:Exit→VK):Exit→VK:=fun e E M n=>match e with | .normal=>Rs n0 (vC Pg T N ents G n0 y Q) E M n | e=>Q e E M n
def aA (id:Nat) (Q:Exit→VK):Exit→VK:=fun e E M n=>match e with | .exit i=>(bif a₆ i id then Q .normal E M n else Q (.exit i) E M n) | e=>Q e E M n
def H8 (n0:Nat) {X:Type} (E':X→VE) (M':X→VM) (n':Nat) (I:X→Prop) (μ:X→Nat) (x:X) (Q:Exit→VK):Exit→VK:=fun e E1 M1 n1=>match e with | .normal=> ∃x',I x'∧μ x' < μ x∧iL n0 (E' x') (M' x') n' E1 M1 | e=>Q e E1 M1 n1
variable {Q:Exit→VK} {E:VE} {M:VM} {n:Nat} {x y c:Code} {id i:Nat}
theorem z1 (h:vC Pg T N ents G n0 x (aY Pg T N ents G n0 y Q) E M n):vC Pg T N ents G n0 (.seq x y) Q E M n:=h
theorem tu (h:Q .normal E M n):vC Pg T N ents G n0 .skip Q E M n:=h
theorem oX {l:Nat} (h:Q .normal E M n):vC Pg T N ents G n0 (.label l) Q E M n:=h
theorem tw (h:Q (.exit id) E M n):vC Pg T N ents G n0 (.exit id) Q E M n:=h
theorem z6 (h:Q .ret E M n):vC Pg T N ents G n0 .ret Q E M n:=h
theorem oY (h:vC Pg T N ents G n0 c (aA id Q) E M n):vC Pg T N ents G n0 (.block id c) Q E M n:=h
theorem lW {l:List Oper} (h:aj Pg T N ents G (a₅ l) l (Q .normal) E M n):vC Pg T N ents G n0 (.region id (a₅ l) false) Q E M n:=h
theorem av {ops:Array Oper} (L:List (Nat×Bool)) (h:aG Pg T N ents G ops L [] (Q .normal) E M n):vC Pg T N ents G n0 (.region id ops true) Q E M n:=⟨L,h⟩
theorem ae {o:Operand} {t:Bool} (he:iU (VE.get E) o=some (.bool t)) (h1:t=true→vC Pg T N ents G n0 x Q E M n) (h2:t=false→vC Pg T N ents G n0 y Q E M n):vC Pg T N ents G n0 (.cond o x y) Q E M n:=by
 unfold vC;rw [he];exact⟨h1,h2⟩
theorem oZ {o:Operand} (he:iU (VE.get E) o=some (.bool true)) (h:vC Pg T N ents G n0 x Q E M n):vC Pg T N ents G n0 (.cond o x y) Q E M n:=ae he (fun _=>h) (fun h=>a₃ h)
theorem o4 {o:Operand} (he:iU (VE.get E) o=some (.bool false)) (h:vC Pg T N ents G n0 y Q E M n):vC Pg T N ents G n0 (.cond o x y) Q E M n:=ae he (fun h=>a₃ h) (fun _=>h)
theorem ar (X:Type) (E':X→VE) (M':X→VM) (n':Nat) (I:X→Prop) (μ:X→Nat) (x0:X) (hI:I x0) (hm:iL n0 (E' x0) (M' x0) n' E M) (h: ∀x,I x→vC Pg T N ents G n0 c (H8 n0 E' M' n' I μ x Q) (E' x) (M' x) n'):vC Pg T N ents G n0 (.loop c) Q E M n:=⟨X,E',M',n',I,μ,⟨x0,hI,hm⟩,h⟩
theorem tz (h:vC Pg T N ents G n0 y Q E M n):aY Pg T N ents G n0 y Q .normal E M n:=Rs.go h
structure z7 (n0:Nat) {X:Type} (E':X→VE) (M':X→VM) (n':X→Nat) (I:X→Prop) (Q JQ:Exit→VK):Prop where
 nrm: ∀(p:X) {E:VE} {M:VM} {n:Nat},I p→iL n0 (E' p) (M' p) (n' p) E M→JQ .normal E M n
 ret: ∀{E:VE} {M:VM} {n:Nat},Q .ret E M n→JQ .ret E M n
 ext: ∀{i:Nat} {E:VE} {M:VM} {n:Nat},Q (.exit i) E M n→JQ (.exit i) E M n
theorem Cs (X:Type) (E':X→VE) (M':X→VM) (n':X→Nat) (I:X→Prop) (h1: ∀JQ:Exit→VK,z7 n0 E' M' n' I Q JQ→vC Pg T N ents G n0 c JQ E M n) (h2: ∀p,I p→vC Pg T N ents G n0 y Q (E' p) (M' p) (n' p)):vC Pg T N ents G n0 c (aY Pg T N ents G n0 y Q) E M n:=
 h1 _ ⟨fun p _ _ _ hI hm=>Rs.re _ _ _ hm (h2 p hI),fun h=>h,fun h=>h⟩
theorem si {ops:Array Oper} {l:List Oper} (X:Type) (E':X→VE) (M':X→VM) (n':X→Nat) (I:X→Prop) (h1: ∀JQ:Exit→VK,z7 n0 E' M' n' I Q JQ→aj Pg T N ents G ops l (aY Pg T N ents G n0 c JQ .normal) E M n) (h2: ∀p,I p→vC Pg T N ents G n0 y Q (E' p) (M' p) (n' p)):aj Pg T N ents G ops l (aY Pg T N ents G n0 c (aY Pg T N ents G n0 y Q) .normal) E M n:=
 h1 _ ⟨fun p _ _ _ hI hm=>Rs.re _ _ _ hm (h2 p hI),fun h=>h,fun h=>h⟩
theorem xU (X:Type) (E':X→VE) (M':X→VM) (n':X→Nat) (I:X→Prop) (h1: ∀JQ:Exit→VK,z7 n0 E' M' n' I Q JQ→vC Pg T N ents G n0 c (aA id JQ) E M n) (h2: ∀p,I p→vC Pg T N ents G n0 y Q (E' p) (M' p) (n' p)):vC Pg T N ents G n0 c (aA id (aY Pg T N ents G n0 y Q)) E M n:=
 h1 _ ⟨fun p _ _ _ hI hm=>Rs.re _ _ _ hm (h2 p hI),fun h=>h,fun h=>h⟩
theorem o5 {X:Type} {E':X→VE} {M':X→VM} {n':X→Nat} {I:X→Prop} {JQ:Exit→VK} (hj:z7 n0 E' M' n' I Q JQ) (h:Q .ret E M n):JQ .ret E M n:=hj.ret h
theorem o6 {X:Type} {E':X→VE} {M':X→VM} {n':X→Nat} {I:X→Prop} {JQ:Exit→VK} (hj:z7 n0 E' M' n' I Q JQ) (h:Q (.exit i) E M n):JQ (.exit i) E M n:=hj.ext h
theorem tC (h:Q (.exit i) E M n):aY Pg T N ents G n0 y Q (.exit i) E M n:=h
theorem tD (h:Q .ret E M n):aY Pg T N ents G n0 y Q .ret E M n:=h
theorem lX (h:Q .normal E M n):aA id Q .normal E M n:=h
theorem lY (h:Q .ret E M n):aA id Q .ret E M n:=h
theorem lZ (hb:a₆ i id=true) (h:Q .normal E M n):aA id Q (.exit i) E M n:=by
 show(bif a₆ i id then _ else _);rw [hb];exact h
theorem l6 (hb:a₆ i id=false) (h:Q (.exit i) E M n):aA id Q (.exit i) E M n:=by
 show(bif a₆ i id then _ else _);rw [hb];exact h
theorem o7 {X:Type} {E':X→VE} {M':X→VM} {n':Nat} {I:X→Prop} {μ:X→Nat} {x:X} (h:Q (.exit i) E M n):H8 n0 E' M' n' I μ x Q (.exit i) E M n:=h
theorem o8 {X:Type} {E':X→VE} {M':X→VM} {n':Nat} {I:X→Prop} {μ:X→Nat} {x:X} (h:Q .ret E M n):H8 n0 E' M' n' I μ x Q .ret E M n:=h
def aC (Pg:Program) (T:bh) (N:Nat) (ents:List FuncId) (G:GS) (ops:Array Oper) (o:Oper) (rest:List Oper) (K:VK) (E:VE) (M:VM) (n:Nat):Prop:=
 sZ Pg T ents G o E M n fun r M n=>dP N o.dst r E fun E=>aj Pg T N ents G ops rest K E M n
def fY:Op→Bool
 | .call c=>match c.callee with
  | .value _=>false
  | _=>true
 | _=>true
variable {ops:Array Oper} {dst:Option Tmp} {d:Tmp} {op:Op} {ty:TypeId} {pos:String} {after:Array Edge} {g:Option (Nat×Bool)} {rest:List Oper} {K:VK} {r:MV} {δ:Dl} {o:Oper} {j s:Nat} {want t:Bool}
theorem DZ (h:K E M n):aj Pg T N ents G ops [] K E M n:=h
theorem z8 (h:aC Pg T N ents G ops ⟨dst,op,ty,pos,after,none⟩ rest K E M n):aj Pg T N ents G ops (⟨dst,op,ty,pos,after,none⟩ :: rest) K E M n:=Rt.go h
theorem ah (hs:(ops[j]?).bind (·.dst)=some s) (hv:VE.get E s=some (.bool t)) (h1:t=want→aC Pg T N ents G ops ⟨some d,op,ty,pos,after,some (j,want)⟩ rest K ((s, .bool want) :: E) M n) (hd:a₄ d N=true)
  (h2:t= !want→aj Pg T N ents G ops rest K ((d, .undef) :: (s, .bool (!want)) :: E) M (n + 1)):aj Pg T N ents G ops (⟨some d,op,ty,pos,after,some (j,want)⟩ :: rest) K E M n:=by
 unfold aj
 refine Rt.go ?_
 unfold xE
 simp only [hs,hv]
 refine⟨h1,fun ht=>?_⟩
 unfold dP
 simp only [hd]
 exact h2 ht
theorem Qt (hf:(ops[j]?).bind (·.dst)=some s∧VE.get E s=some (.bool t)∧a₄ d N=true) (h1:t=want→aC Pg T N ents G ops ⟨some d,op,ty,pos,after,some (j,want)⟩ rest K ((s, .bool want) :: E) M n) (h2:t= !want→aj Pg T N ents G ops rest K ((d, .undef) :: (s, .bool (!want)) :: E) M (n + 1)):aj Pg T N ents G ops (⟨some d,op,ty,pos,after,some (j,want)⟩ :: rest) K E M n:=ah hf.1 hf.2.1 h1 hf.2.2 h2
theorem kg (hs:(ops[j]?).bind (·.dst)=some s) (hv:VE.get E s=some (.bool want)) (h:aC Pg T N ents G ops ⟨dst,op,ty,pos,after,some (j,want)⟩ rest K ((s, .bool want) :: E) M n):aj Pg T N ents G ops (⟨dst,op,ty,pos,after,some (j,want)⟩ :: rest) K E M n:=by
 unfold aj;refine Rt.go ?_;unfold xE;simp only [hs,hv];exact⟨fun _=>h,fun ht=>by cases want <;> cases ht⟩
theorem l7 (hs:(ops[j]?).bind (·.dst)=some s) (hv:VE.get E s=some (.bool (!want))) (hd:a₄ d N=true) (h:aj Pg T N ents G ops rest K ((d, .undef) :: (s, .bool (!want)) :: E) M (n + 1)):aj Pg T N ents G ops (⟨some d,op,ty,pos,after,some (j,want)⟩ :: rest) K E M n:=
 ah hs hv (fun ht=>by cases want <;> cases ht) hd (fun _=>h)
theorem l8 (hs:(ops[j]?).bind (·.dst)=some s) (hv:VE.get E s=some .undef) (hd:a₄ d N=true) (h:aj Pg T N ents G ops rest K ((d, .undef) :: E) M (n + 1)):aj Pg T N ents G ops (⟨some d,op,ty,pos,after,some (j,want)⟩ :: rest) K E M n:=by
 unfold aj;refine Rt.go ?_;unfold xE;simp only [hs,hv];unfold dP;simp only [hd];exact h
theorem Aa {l1 l2:List Oper} (h:aj Pg T N ents G ops (o :: d₇ l1 l2) K E M n):aj Pg T N ents G ops (d₇ (o :: l1) l2) K E M n:=h
theorem tE {l2:List Oper} (h:aj Pg T N ents G ops l2 K E M n):aj Pg T N ents G ops (d₇ [] l2) K E M n:=h
theorem H9 (hq:xD T E ⟨dst,op,ty,pos,after,g⟩=none) (hv:fY op=true) (he: ∀R:MV×Dl→Prop,R (r,δ)→(iI Pg T (VE.get E) (VM.get M) n ⟨dst,op,ty,pos,after,g⟩).runP R)
  (h:dP N dst r E fun E=>aj Pg T N ents G ops rest K E (δ.app n M) (n + 1)):aC Pg T N ents G ops ⟨dst,op,ty,pos,after,g⟩ rest K E M n:=by
 unfold aC sZ
 rw [hq]
 show MJ Pg T ents G _ E M n _
 cases op with
 | call c=>
  obtain⟨callee,args,ats⟩:=c
  cases callee with
  | value f=>cases hv
  | builtin b=>exact .inl (he _ h)
  | invoke r n=>exact he _ h
 | _=>exact he _ h
theorem tF {p:Prop} {E:VE} {M:VM} {o:Oper} {K:Nat→Prop} (h:p):p∨MI Pg E M o K:= .inl h
theorem Ns {b:Builtin} {args:Array Operand} {ats:Array TypeId} {k:Nat} (hl:qg Pg E M ⟨some d, .call ⟨.builtin b,args,ats⟩,ty,pos,after,g⟩=some k) (hd:a₄ d N=true) (h:aj Pg T N ents G ops rest K ((d, .int .i64 k) :: E) M (n + 1)):aC Pg T N ents G ops ⟨some d, .call ⟨.builtin b,args,ats⟩,ty,pos,after,g⟩ rest K E M n:=by
 refine .inr ⟨k,hl,?_⟩;unfold dP;simp only [hd];exact h
theorem tG (hq:xD T E ⟨some d,op,ty,pos,after,g⟩=none) (hv:fY op=true) (he: ∀R:MV×Dl→Prop,R (r, .none)→(iI Pg T (VE.get E) (VM.get M) n ⟨some d,op,ty,pos,after,g⟩).runP R) (hd:a₄ d N=true)
  (h:aj Pg T N ents G ops rest K ((d,r) :: E) M (n + 1)):aC Pg T N ents G ops ⟨some d,op,ty,pos,after,g⟩ rest K E M n:=by
 refine H9 hq hv he ?_
 unfold dP
 simp only [hd]
 exact h
theorem bc (hq:xD T E ⟨some d,op,ty,pos,after,g⟩=none) (hv:fY op=true) (he: ∀R:MV×Dl→Prop,R (r,δ)→(iI Pg T (VE.get E) (VM.get M) n ⟨some d,op,ty,pos,after,g⟩).runP R) (hd:a₄ d N=true)
  (h:aj Pg T N ents G ops rest K ((d,r) :: E) (δ.app n M) (n + 1)):aC Pg T N ents G ops ⟨some d,op,ty,pos,after,g⟩ rest K E M n:=by
 refine H9 hq hv he ?_
 unfold dP
 simp only [hd]
 exact h
theorem qm (hq:xD T E ⟨none,op,ty,pos,after,g⟩=none) (hv:fY op=true) (he: ∀R:MV×Dl→Prop,R (r,δ)→(iI Pg T (VE.get E) (VM.get M) n ⟨none,op,ty,pos,after,g⟩).runP R)
  (h:aj Pg T N ents G ops rest K E (δ.app n M) (n + 1)):aC Pg T N ents G ops ⟨none,op,ty,pos,after,g⟩ rest K E M n:=H9 hq hv he h
theorem wz {k:Nat} {neg:Bool} (hq:xD T E ⟨some d,op,ty,pos,after,g⟩=some (k,neg)) (hd:a₄ d N=true) (h: ∀b:Bool,(b=true→k=0)→aj Pg T N ents G ops rest K ((d, .bool (bif neg then !b else b)) :: E) M (n + 1)):aC Pg T N ents G ops ⟨some d,op,ty,pos,after,g⟩ rest K E M n:=by
 unfold aC sZ;rw [hq];intro b hb;unfold dP;simp only [hd];have:=h b hb;cases neg <;> exact this
section
variable {f:Operand} {args:Array Operand} {ats:Array TypeId} {f0:FuncId} {vs:List MV} {bs:List (Nat×Nat)} {res:MV}
theorem PH (hd: ∀d,dst=some d→a₄ d N=true) (h1: ∀R:FuncId×List MV×List (Nat×Nat)→Prop,R (f0,vs,bs)→(rm E M f args.toList).runP R) (h2:ents.contains f0=true) (hc:aD Pg G f0 vs res)
  (h:aj Pg T N ents G ops rest K (match dst with | some d=>(d,res) :: E | none=>E) (VM.bump M bs) (n + 1)):aC Pg T N ents G ops ⟨dst, .call ⟨.value f,args,ats⟩,ty,pos,after,g⟩ rest K E M n:=by
 show(vH Pg T ents G _ E M n _)∨_
 refine .inl ?_
 show(rm E M f args.toList).runP _
 refine h1 _ ?_
 show(match ents.contains f0 with | true=> ∃res,aD Pg G f0 vs res∧_ | false=>False)
 rw [h2]
 refine⟨res,hc,?_⟩
 unfold dP
 cases dst with
 | none=>exact h
 | some d=>
  simp only [hd d rfl]
  exact h
theorem Li (hd: ∀d,dst=some d→a₄ d N=true) (h1: ∀R:FuncId×List MV→Prop,R (f0,vs)→(dG E f args.toList).runP R) (h2:ents.contains f0=true) {args':List MV} {M0:VM} {n0:Nat} {M1:VM} {n1:Nat} (hc:aL Pg G f0 args' M0 n0 res M1 n1) (σ bs:List (Nat×Nat))
  (hm:eh 0 args' M0 n0 vs M σ bs) (h3:iy M σ=true) (h4:M1.all (fun x=>a₄ x.1 n1)=true) (h:aj Pg T N ents G ops rest K (match dst with | some d=>(d,cJ (rr n σ) res) :: E | none=>E) (jL (rr n σ) M1 ++ iM (VM.bump M bs) σ) (n + n1)) :
  aC Pg T N ents G ops ⟨dst, .call ⟨.value f,args,ats⟩,ty,pos,after,g⟩ rest K E M n:=by
 show(vH Pg T ents G _ E M n _)∨(dG E f args.toList).runP _
 refine .inr (h1 _ ?_)
 show(match ents.contains f0 with | true=>ji Pg G vJ M n f0 vs _ | false=>ji Pg G zt M n f0 vs _)
 rw [h2]
 refine⟨args',M0,n0,fun r M' n'=>r=res∧M'=M1∧n'=n1,zu (fun h k=>h.mono k) hc ⟨rfl,rfl,rfl⟩,σ,bs,hm,h3,?_⟩
 rintro _ _ _ ⟨rfl,rfl,rfl⟩
 refine⟨h4,?_⟩
 unfold dP
 cases dst with
 | none=>exact h
 | some d=>
  simp only [hd d rfl]
  exact h
theorem Lj (hd: ∀d,dst=some d→a₄ d N=true) (h1: ∀R:FuncId×List MV→Prop,R (f0,vs)→(dG E f args.toList).runP R) (h2:ents.contains f0=false) {args':List MV} {M0:VM} {n0:Nat} {M1:VM} {n1:Nat} (hc:BV Pg G f0 args' M0 n0 res M1 n1) (σ bs:List (Nat×Nat))
  (hm:eh 0 args' M0 n0 vs M σ bs) (h3:iy M σ=true) (h4:M1.all (fun x=>a₄ x.1 n1)=true) (h:aj Pg T N ents G ops rest K (match dst with | some d=>(d,cJ (rr n σ) res) :: E | none=>E) (jL (rr n σ) M1 ++ iM (VM.bump M bs) σ) (n + n1)) :
  aC Pg T N ents G ops ⟨dst, .call ⟨.value f,args,ats⟩,ty,pos,after,g⟩ rest K E M n:=by
 show(vH Pg T ents G _ E M n _)∨(dG E f args.toList).runP _
 refine .inr (h1 _ ?_)
 show(match ents.contains f0 with | true=>ji Pg G vJ M n f0 vs _ | false=>ji Pg G zt M n f0 vs _)
 rw [h2]
 refine⟨args',M0,n0,fun r M' n'=>r=res∧M'=M1∧n'=n1,zu (fun h k=>h.mono k) hc ⟨rfl,rfl,rfl⟩,σ,bs,hm,h3,?_⟩
 rintro _ _ _ ⟨rfl,rfl,rfl⟩
 refine⟨h4,?_⟩
 unfold dP
 cases dst with
 | none=>exact h
 | some d=>
  simp only [hd d rfl]
  exact h
end
def KH (T:bh) (N:Nat) (E:VE) (o:Oper):Bool:=(match xD T E o with | none=>true | some _=>false) && (fY o.op && (match o.dst with | some d=>a₄ d N | none=>true))
theorem gx (h:KH T N E o=true):xD T E o=none∧fY o.op=true∧∀d,o.dst=some d→a₄ d N=true:=by
 unfold KH at h;simp only [a₀] at h;obtain⟨h1,h2,h3⟩:=h;refine⟨?_,h2,fun d hd=>?_⟩
 ·split at h1
  ·assumption
  ·cases h1
 ·rw [hd] at h3;exact h3
theorem wA (hb:KH T N E ⟨some d,op,ty,pos,after,none⟩=true) (he: ∀R:MV×Dl→Prop,R (r, .none)→(iI Pg T (VE.get E) (VM.get M) n ⟨some d,op,ty,pos,after,none⟩).runP R) (h:aj Pg T N ents G ops rest K ((d,r) :: E) M (n + 1)):aj Pg T N ents G ops (⟨some d,op,ty,pos,after,none⟩ :: rest) K E M n:=
 z8 (tG (gx hb).1 (gx hb).2.1 he ((gx hb).2.2 d rfl) h)
theorem tH (hb:KH T N E ⟨some d,op,ty,pos,after,none⟩=true) (he: ∀R:MV×Dl→Prop,R (r,δ)→(iI Pg T (VE.get E) (VM.get M) n ⟨some d,op,ty,pos,after,none⟩).runP R) (h:aj Pg T N ents G ops rest K ((d,r) :: E) (δ.app n M) (n + 1)):aj Pg T N ents G ops (⟨some d,op,ty,pos,after,none⟩ :: rest) K E M n:=
 z8 (bc (gx hb).1 (gx hb).2.1 he ((gx hb).2.2 d rfl) h)
theorem qn (hb:KH T N E ⟨none,op,ty,pos,after,none⟩=true) (he: ∀R:MV×Dl→Prop,R (r,δ)→(iI Pg T (VE.get E) (VM.get M) n ⟨none,op,ty,pos,after,none⟩).runP R) (h:aj Pg T N ents G ops rest K E (δ.app n M) (n + 1)):aj Pg T N ents G ops (⟨none,op,ty,pos,after,none⟩ :: rest) K E M n:=
 z8 (qm (gx hb).1 (gx hb).2.1 he h)
theorem tI (hs:(ops[j]?).bind (·.dst)=some s) (hv:VE.get E s=some (.bool want)) (hb:KH T N ((s, .bool want) :: E) ⟨some d,op,ty,pos,after,some (j,want)⟩=true) (he: ∀R:MV×Dl→Prop,R (r, .none)→(iI Pg T (VE.get ((s, .bool want) :: E)) (VM.get M) n ⟨some d,op,ty,pos,after,some (j,want)⟩).runP R)
  (h:aj Pg T N ents G ops rest K ((d,r) :: (s, .bool want) :: E) M (n + 1)):aj Pg T N ents G ops (⟨some d,op,ty,pos,after,some (j,want)⟩ :: rest) K E M n:=
 kg hs hv (tG (gx hb).1 (gx hb).2.1 he ((gx hb).2.2 d rfl) h)
theorem tJ {l:List Oper} (h:aj Pg T N ents G (a₅ l) l (aY Pg T N ents G n0 y Q .normal) E M n):vC Pg T N ents G n0 (.seq (.region id (a₅ l) false) y) Q E M n:=h
theorem xV (h:vC Pg T N ents G n0 y Q E M n):aj Pg T N ents G ops [] (aY Pg T N ents G n0 y Q .normal) E M n:=Rs.go h
section
variable {f:Operand} {args:Array Operand} {ats:Array TypeId} {f0:FuncId} {vs:List MV} {bs:List (Nat×Nat)} {res:MV}
theorem bR (hd:a₄ d N=true) (h1: ∀R:FuncId×List MV→Prop,R (f0,vs)→(dG E f args.toList).runP R) (h2:ents.contains f0=true) {args':List MV} {M0:VM} {n0:Nat} {M1:VM} {n1:Nat} (hc:aL Pg G f0 args' M0 n0 res M1 n1) (σ bs:List (Nat×Nat))
  (hm:eh 0 args' M0 n0 vs M σ bs) (h3:iy M σ=true) (h4:M1.all (fun x=>a₄ x.1 n1)=true) (h:aj Pg T N ents G ops rest K ((d,cJ (rr n σ) res) :: E) (jL (rr n σ) M1 ++ iM (VM.bump M bs) σ) (n + n1)) :
  aC Pg T N ents G ops ⟨some d, .call ⟨.value f,args,ats⟩,ty,pos,after,g⟩ rest K E M n:=Li (fun d' e=>by injection e with e;subst e;exact hd) h1 h2 hc σ bs hm h3 h4 h
theorem kh (hd:a₄ d N=true) (h1: ∀R:FuncId×List MV→Prop,R (f0,vs)→(dG E f args.toList).runP R) (h2:ents.contains f0=true) {args':List MV} {M0:VM} {n0:Nat} {Φ:MV→VM→Nat→Prop} (hc:vJ Pg G f0 args' M0 n0 Φ) (σ bs:List (Nat×Nat))
  (hm:eh 0 args' M0 n0 vs M σ bs) (h3:iy M σ=true) (h: ∀(res:MV) (M1:VM) (n1:Nat),Φ res M1 n1→M1.all (fun x=>a₄ x.1 n1)=true∧aj Pg T N ents G ops rest K ((d,cJ (rr n σ) res) :: E) (jL (rr n σ) M1 ++ iM (VM.bump M bs) σ) (n + n1)) :
  aC Pg T N ents G ops ⟨some d, .call ⟨.value f,args,ats⟩,ty,pos,after,g⟩ rest K E M n:=by
 show(vH Pg T ents G _ E M n _)∨(dG E f args.toList).runP _
 refine .inr (h1 _ ?_)
 show(match ents.contains f0 with | true=>ji Pg G vJ M n f0 vs _ | false=>ji Pg G zt M n f0 vs _)
 rw [h2]
 refine⟨args',M0,n0,Φ,hc,σ,bs,hm,h3,fun r M' n' hΦ=>⟨(h r M' n' hΦ).1,?_⟩⟩
 unfold dP
 simp only [hd]
 exact(h r M' n' hΦ).2
theorem dQ (hd:a₄ d N=true) (h1: ∀R:FuncId×List MV→Prop,R (f0,vs)→(dG E f args.toList).runP R) (h2:ents.contains f0=false) {args':List MV} {M0:VM} {n0:Nat} {M1:VM} {n1:Nat} (hc:BV Pg G f0 args' M0 n0 res M1 n1) (σ bs:List (Nat×Nat))
  (hm:eh 0 args' M0 n0 vs M σ bs) (h3:iy M σ=true) (h4:M1.all (fun x=>a₄ x.1 n1)=true) (h:aj Pg T N ents G ops rest K ((d,cJ (rr n σ) res) :: E) (jL (rr n σ) M1 ++ iM (VM.bump M bs) σ) (n + n1)) :
  aC Pg T N ents G ops ⟨some d, .call ⟨.value f,args,ats⟩,ty,pos,after,g⟩ rest K E M n:=Lj (fun d' e=>by injection e with e;subst e;exact hd) h1 h2 hc σ bs hm h3 h4 h
end
theorem Ab (E':VE) (M':VM) (bs:List (Nat×Nat)) (h1:DJ M bs) (h2:M'.all (fun x=>a₄ x.1 n)=true) (h3:mE (cA n []) (kP M bs) E' E) (h4:mM (cA n []) (kP M bs) M' (VM.bump M bs)) (h:aj Pg T N ents G ops (o :: rest) K E' M' n):aj Pg T N ents G ops (o :: rest) K E M n:=
 Rt.re E' M' ⟨bs,h1,h2,h3,h4⟩ h
end
end
section
section
variable {Pg:Program} {T:bh} {N:Nat} {ents:List FuncId} {G:GS} {ops:Array Oper} {dst:Option Tmp} {d:Tmp} {op:Op} {ty:TypeId} {pos:String} {after:Array Edge} {g:Option (Nat×Bool)} {K:VK} {r:MV} {δ:Dl} {o:Oper} {j s k:Nat} {want t rf:Bool}
 {E:VE} {M:VM} {n:Nat} {J:List Nat→VE→VM→Prop} {L:List (Nat×Bool)} {A:List pV} {fp:List Nat}
def aQ (Pg:Program) (T:bh) (N:Nat) (ents:List FuncId) (G:GS) (ops:Array Oper) (L:List (Nat×Bool)) (A:List pV) (K:VK) (k n:Nat) (rf:Bool):List Nat→VE→VM→Prop:=fun fp E M=>aG Pg T N ents G ops L (⟨k,n,rf,fp⟩ :: A) K E M (n + 1)
theorem Ac (ho:gw ops A.reverse n=true) (h:K E M n):aG Pg T N ents G ops [] A K E M n:=⟨ho,h⟩
def rY:List Oper→Nat→Option Oper
 | [],_=>none
 | o :: _,0=>some o
 | _ :: l,k + 1=>rY l k
theorem xW: ∀(l:List Oper) (k:Nat),l[k]? =rY l k
 | [],_=>by simp [rY]
 | o :: _,0=>rfl
 | o :: l,k + 1=>by simp [rY,xW l k]
theorem kW {l:List Oper} (ho:rY l k=some o) (h:rX Pg T N ents G (a₅ l) rf o (aQ Pg T N ents G (a₅ l) L A K k n rf) E M n):aG Pg T N ents G (a₅ l) ((k,rf) :: L) A K E M n:=by
 unfold aG;have e:(a₅ l)[k]? =some o:=by rw [← ho,← xW];simp
 simp only [e];exact h
theorem tK {l:List Oper} (ho:rY l k=none) (h:aG Pg T N ents G (a₅ l) L A K E M (n + 1)):aG Pg T N ents G (a₅ l) ((k,rf) :: L) A K E M n:=by
 unfold aG;have e:(a₅ l)[k]? =none:=by rw [← ho,← xW];simp
 simp only [e];exact h
theorem tL (h:aG Pg T N ents G ops L (⟨k,n,rf,fp⟩ :: A) K E M (n + 1)):aQ Pg T N ents G ops L A K k n rf fp E M:=h
def aM (Pg:Program) (T:bh) (N:Nat) (ents:List FuncId) (G:GS) (rf:Bool) (o:Oper) (J:List Nat→VE→VM→Prop) (E:VE) (M:VM) (n:Nat):Prop:=oU Pg T ents G rf o E M n fun r M fp=>dP N o.dst r E fun E=>J fp E M
theorem Ad (h:aM Pg T N ents G rf ⟨dst,op,ty,pos,after,none⟩ J E M n):rX Pg T N ents G ops rf ⟨dst,op,ty,pos,after,none⟩ J E M n:=h
theorem dY (hs:(ops[j]?).bind (·.dst)=some s) (hv:VE.get E s=some (.bool t)) (h1:t=want→aM Pg T N ents G rf ⟨some d,op,ty,pos,after,some (j,want)⟩ J ((s, .bool want) :: E) M n) (hd:a₄ d N=true)
  (h2:t= !want→J (bif rf then [] else numsO (VE.get E) op.operands.toList) ((d, .undef) :: (s, .bool (!want)) :: E) M):rX Pg T N ents G ops rf ⟨some d,op,ty,pos,after,some (j,want)⟩ J E M n:=by
 unfold rX
 simp only [hs,hv]
 refine⟨h1,fun ht=>?_⟩
 unfold dP
 simp only [hd]
 exact h2 ht
theorem km (hs:(ops[j]?).bind (·.dst)=some s) (hv:VE.get E s=some (.bool want)) (h:aM Pg T N ents G rf ⟨dst,op,ty,pos,after,some (j,want)⟩ J ((s, .bool want) :: E) M n):rX Pg T N ents G ops rf ⟨dst,op,ty,pos,after,some (j,want)⟩ J E M n:=by
 unfold rX;simp only [hs,hv];exact⟨fun _=>h,fun ht=>by cases want <;> cases ht⟩
theorem l9 (hs:(ops[j]?).bind (·.dst)=some s) (hv:VE.get E s=some (.bool (!want))) (hd:a₄ d N=true) (h:J (bif rf then [] else numsO (VE.get E) op.operands.toList) ((d, .undef) :: (s, .bool (!want)) :: E) M):rX Pg T N ents G ops rf ⟨some d,op,ty,pos,after,some (j,want)⟩ J E M n:=
 dY hs hv (fun ht=>by cases want <;> cases ht) hd (fun _=>h)
theorem ma (hs:(ops[j]?).bind (·.dst)=some s) (hv:VE.get E s=some .undef) (hd:a₄ d N=true) (h:J (bif rf then [] else numsO (VE.get E) op.operands.toList) ((d, .undef) :: E) M):rX Pg T N ents G ops rf ⟨some d,op,ty,pos,after,some (j,want)⟩ J E M n:=by
 unfold rX;simp only [hs,hv];unfold dP;simp only [hd];exact h
theorem Ct (hv:fY op=true) (he: ∀R:MV×Dl→Prop,R (r,δ)→(iI Pg T (VE.get E) (VM.get M) n ⟨dst,op,ty,pos,after,g⟩).runP R)
  (h:dP N dst r E fun E2=>J (numsO (VE.get E) op.operands.toList) E2 (δ.app n M)):aM Pg T N ents G false ⟨dst,op,ty,pos,after,g⟩ J E M n:=by
 unfold aM oU vH
 dsimp only
 cases op with
 | call c=>
  obtain⟨callee,args,ats⟩:=c
  cases callee with
  | value f=>cases hv
  | builtin b=>exact he _ h
  | invoke r n=>exact he _ h
 | _=>exact he _ h
theorem n9 (hv:fY op=true) (he: ∀R:MV×Dl→Prop,R (r, .none)→(iI Pg T (VE.get E) (VM.get M) n ⟨some d,op,ty,pos,after,g⟩).runP R) (hd:a₄ d N=true)
  (h:J (numsO (VE.get E) op.operands.toList) ((d,r) :: E) M):aM Pg T N ents G false ⟨some d,op,ty,pos,after,g⟩ J E M n:=by
 refine Ct hv he ?_
 unfold dP
 simp only [hd]
 exact h
theorem bQ (hv:fY op=true) (he: ∀R:MV×Dl→Prop,R (r,δ)→(iI Pg T (VE.get E) (VM.get M) n ⟨some d,op,ty,pos,after,g⟩).runP R) (hd:a₄ d N=true)
  (h:J (numsO (VE.get E) op.operands.toList) ((d,r) :: E) (δ.app n M)):aM Pg T N ents G false ⟨some d,op,ty,pos,after,g⟩ J E M n:=by
 refine Ct hv he ?_
 unfold dP
 simp only [hd]
 exact h
theorem mY (hv:fY op=true) (he: ∀R:MV×Dl→Prop,R (r,δ)→(iI Pg T (VE.get E) (VM.get M) n ⟨none,op,ty,pos,after,g⟩).runP R)
  (h:J (numsO (VE.get E) op.operands.toList) E (δ.app n M)):aM Pg T N ents G false ⟨none,op,ty,pos,after,g⟩ J E M n:=Ct hv he h
theorem wB {l:List Oper} (ho:rY l k=some ⟨some d,op,ty,pos,after,none⟩) (hb:(fY op && a₄ d N)=true) (he: ∀R:MV×Dl→Prop,R (r, .none)→(iI Pg T (VE.get E) (VM.get M) n ⟨some d,op,ty,pos,after,none⟩).runP R)
  (h:aG Pg T N ents G (a₅ l) L (⟨k,n,false,numsO (VE.get E) op.operands.toList⟩ :: A) K ((d,r) :: E) M (n + 1)):aG Pg T N ents G (a₅ l) ((k,false) :: L) A K E M n:=by
 rw [a₀] at hb
 exact kW ho (Ad (n9 hb.1 he hb.2 h))
theorem Ae {l:List Oper} (ho:rY l k=some ⟨some d,op,ty,pos,after,none⟩) (hb:(fY op && a₄ d N)=true) (he: ∀R:MV×Dl→Prop,R (r,δ)→(iI Pg T (VE.get E) (VM.get M) n ⟨some d,op,ty,pos,after,none⟩).runP R)
  (h:aG Pg T N ents G (a₅ l) L (⟨k,n,false,numsO (VE.get E) op.operands.toList⟩ :: A) K ((d,r) :: E) (δ.app n M) (n + 1)):aG Pg T N ents G (a₅ l) ((k,false) :: L) A K E M n:=by
 rw [a₀] at hb
 exact kW ho (Ad (bQ hb.1 he hb.2 h))
theorem qo {l:List Oper} (ho:rY l k=some ⟨none,op,ty,pos,after,none⟩) (hb:fY op=true) (he: ∀R:MV×Dl→Prop,R (r,δ)→(iI Pg T (VE.get E) (VM.get M) n ⟨none,op,ty,pos,after,none⟩).runP R)
  (h:aG Pg T N ents G (a₅ l) L (⟨k,n,false,numsO (VE.get E) op.operands.toList⟩ :: A) K E (δ.app n M) (n + 1)):aG Pg T N ents G (a₅ l) ((k,false) :: L) A K E M n:=
 kW ho (Ad (mY hb he h))
theorem tM {l:List Oper} (ho:rY l k=some ⟨some d,op,ty,pos,after,some (j,want)⟩) (hs:((a₅ l)[j]?).bind (·.dst)=some s) (hv:VE.get E s=some (.bool want)) (hb:(fY op && a₄ d N)=true) (he: ∀R:MV×Dl→Prop,R (r, .none)→(iI Pg T (VE.get ((s, .bool want) :: E)) (VM.get M) n ⟨some d,op,ty,pos,after,some (j,want)⟩).runP R)
  (h:aG Pg T N ents G (a₅ l) L (⟨k,n,false,numsO (VE.get ((s, .bool want) :: E)) op.operands.toList⟩ :: A) K ((d,r) :: (s, .bool want) :: E) M (n + 1)):aG Pg T N ents G (a₅ l) ((k,false) :: L) A K E M n:=by
 rw [a₀] at hb
 exact kW ho (km hs hv (n9 hb.1 he hb.2 h))
section
variable {f:Operand} {args:Array Operand} {ats:Array TypeId} {f0:FuncId} {vs:List MV} {bs:List (Nat×Nat)} {res:MV}
theorem ON (hd: ∀d,dst=some d→a₄ d N=true) (h1: ∀R:FuncId×List MV×List (Nat×Nat)→Prop,R (f0,vs,bs)→(rm E M f args.toList).runP R) (h2:ents.contains f0=true) (hc:aD Pg G f0 vs res)
  (h:J (numsO (VE.get E) (Op.call ⟨.value f,args,ats⟩).operands.toList) (match dst with | some d=>(d,res) :: E | none=>E) (VM.bump M bs)):aM Pg T N ents G false ⟨dst, .call ⟨.value f,args,ats⟩,ty,pos,after,g⟩ J E M n:=by
 show(rm E M f args.toList).runP _
 refine h1 _ ?_
 show(match ents.contains f0 with | true=> ∃res,aD Pg G f0 vs res∧_ | false=>False)
 rw [h2]
 refine⟨res,hc,?_⟩
 unfold dP
 cases dst with
 | none=>exact h
 | some d=>
  simp only [hd d rfl]
  exact h
theorem Ia (hd: ∀d,dst=some d→a₄ d N=true) (h1: ∀R:FuncId×List MV→Prop,R (f0,vs)→(dG E f args.toList).runP R) (h2:ents.contains f0=true) (fp:List Nat) {args':List MV} {M0:VM} {n0:Nat} {M1:VM} {n1:Nat} (hc:aL Pg G f0 args' M0 n0 res M1 n1) (σ bs:List (Nat×Nat))
  (hm:eh 0 args' M0 n0 vs M σ bs) (h3:iy M σ=true) (h4:wh σ n0 n1 M1=true) (h7:Ft n n0 n1 fp=true) (h5:vK (σ.map (·.2)) fp=true) (h6:vK (bs.map (·.1)) fp=true)
  (h:J fp (match dst with | some d=>(d,cJ (gO n0 n σ) res) :: E | none=>E) (jL (gO n0 n σ) M1 ++ iM (VM.bump M bs) σ)):aM Pg T N ents G true ⟨dst, .call ⟨.value f,args,ats⟩,ty,pos,after,g⟩ J E M n:=by
 show(dG E f args.toList).runP _
 refine h1 _ ?_
 show(match ents.contains f0 with | true=> ∃fp,lT Pg G M n f0 vs fp _ | false=>False)
 rw [h2]
 refine⟨fp,args',M0,n0,res,M1,n1,hc,σ,bs,hm,h3,h4,h7,h5,h6,?_⟩
 unfold dP
 cases dst with
 | none=>exact h
 | some d=>
  simp only [hd d rfl]
  exact h
theorem bB (hd:a₄ d N=true) (h1: ∀R:FuncId×List MV→Prop,R (f0,vs)→(dG E f args.toList).runP R) (h2:ents.contains f0=true) (fp:List Nat) {args':List MV} {M0:VM} {n0:Nat} {M1:VM} {n1:Nat} (hc:aL Pg G f0 args' M0 n0 res M1 n1) (σ bs:List (Nat×Nat))
  (hm:eh 0 args' M0 n0 vs M σ bs) (h3:iy M σ=true) (h4:wh σ n0 n1 M1=true) (h7:Ft n n0 n1 fp=true) (h5:vK (σ.map (·.2)) fp=true) (h6:vK (bs.map (·.1)) fp=true)
  (h:J fp ((d,cJ (gO n0 n σ) res) :: E) (jL (gO n0 n σ) M1 ++ iM (VM.bump M bs) σ)):aM Pg T N ents G true ⟨some d, .call ⟨.value f,args,ats⟩,ty,pos,after,g⟩ J E M n:=Ia (fun d' e=>by injection e with e;subst e;exact hd) h1 h2 fp hc σ bs hm h3 h4 h7 h5 h6 h
end
end
end
section
mutual
def dR:MV→Bool
 | .tup l=>qp l
 | .undef=>true
 | m=>m.idFree
def qp:List MV→Bool
 | [] =>true
 | m :: l=>dR m && qp l
end
theorem qq {ρ:Nat→Nat}: ∀m:MV,m.idFree=true→cJ ρ m=m
 | .st l,h=>by
  have h:MV.idFrees l=true:=h
  simp only [cJ,h,cond_true]
 | .fn f l,h=>by
  have h:MV.idFrees l=true:=h
  simp only [cJ,h,cond_true]
 | .ifc t v,h=>by
  have h:MV.idFree v=true:=h
  simp only [cJ,h,cond_true]
 | .ptr ..,h=>by cases h
 | .ms ..,h=>by cases h
 | .tup ..,h=>by cases h
 | .undef,h=>by cases h
 | .mp _,h=>by cases h
 | .mpv ..,h=>by cases h
 | .int ..,_=>by simp only [cJ]
 | .bool ..,_=>by simp only [cJ]
 | .str ..,_=>by simp only [cJ]
 | .nilp,_=>by simp only [cJ]
 | .gp ..,_=>by simp only [cJ]
 | .ep ..,_=>by simp only [cJ]
 | .sl ..,_=>by simp only [cJ]
 | .nils,_=>by simp only [cJ]
 | .nilf,_=>by simp only [cJ]
 | .nili,_=>by simp only [cJ]
 | .arr ..,_=>by simp only [cJ]
mutual
theorem jj {ρ:Nat→Nat}: ∀m:MV,dR m=true→cJ ρ m=m
 | .tup l,h=>by
  simp only [dR] at h
  simp only [cJ,rB l h]
 | .undef,_=>by simp only [cJ]
 | .st l,h=>qq _ (by simpa only [dR] using h)
 | .fn f l,h=>qq _ (by simpa only [dR] using h)
 | .ifc t v,h=>qq _ (by simpa only [dR] using h)
 | .ptr ..,h=>by simp only [dR] at h;cases h
 | .ms ..,h=>by simp only [dR] at h;cases h
 | .mp _,h=>by simp only [dR] at h;cases h
 | .mpv ..,h=>by simp only [dR] at h;cases h
 | .int ..,_=>by simp only [cJ]
 | .bool ..,_=>by simp only [cJ]
 | .str ..,_=>by simp only [cJ]
 | .nilp,_=>by simp only [cJ]
 | .gp ..,_=>by simp only [cJ]
 | .ep ..,_=>by simp only [cJ]
 | .sl ..,_=>by simp only [cJ]
 | .nils,_=>by simp only [cJ]
 | .nilf,_=>by simp only [cJ]
 | .nili,_=>by simp only [cJ]
 | .arr ..,_=>by simp only [cJ]
theorem rB {ρ:Nat→Nat}: ∀l:List MV,qp l=true→renVs ρ l=l
 | [],_=>by simp only [renVs]
 | m :: l,h=>by
  simp only [qp,a₀] at h
  simp only [renVs,jj m h.1,rB l h.2]
end
section
variable {Pg:Program} {T:bh} {N:Nat} {ents:List FuncId} {G:GS} {ops:Array Oper} {d:Tmp} {ty:TypeId} {pos:String} {after:Array Edge} {g:Option (Nat×Bool)} {rest:List Oper} {K:VK} {E:VE} {M:VM} {n:Nat}
 {f:Operand} {args:Array Operand} {ats:Array TypeId} {f0:FuncId} {vs:List MV} {res:MV} {J:List Nat→VE→VM→Prop}
theorem cG (hd:a₄ d N=true) (h1: ∀R:FuncId×List MV→Prop,R (f0,vs)→(dG E f args.toList).runP R) (h2:ents.contains f0=true) {args':List MV} (hc:aL Pg G f0 args' [] 0 res [] 0) (hf:dR res=true) (bs:List (Nat×Nat)) (hb:DJ M bs)
  (hm:cU.relVs (cA 0 []) (kP M bs) args' vs) (h:aj Pg T N ents G ops rest K ((d,res) :: E) (VM.bump M bs) n):aC Pg T N ents G ops ⟨some d, .call ⟨.value f,args,ats⟩,ty,pos,after,g⟩ rest K E M n:=by
 refine bR hd h1 h2 hc [] bs ⟨rfl,hb,rfl,hm,trivial⟩ rfl rfl ?_
 rw [jj res hf]
 exact h
theorem sj (hd:a₄ d N=true) (h1: ∀R:FuncId×List MV→Prop,R (f0,vs)→(dG E f args.toList).runP R) (h2:ents.contains f0=true) {args':List MV} (hc:aL Pg G f0 args' [] 0 res [] 0) (hf:dR res=true)
  (hm:cU.relVs (cA 0 []) (kP M []) args' vs) (h:aj Pg T N ents G ops rest K ((d,res) :: E) M n):aC Pg T N ents G ops ⟨some d, .call ⟨.value f,args,ats⟩,ty,pos,after,g⟩ rest K E M n:=
 cG hd h1 h2 hc hf [] trivial hm h
theorem kn (hd:a₄ d N=true) (h1: ∀R:FuncId×List MV→Prop,R (f0,vs)→(dG E f args.toList).runP R) (h2:ents.contains f0=true) (fp:List Nat) {args':List MV} (hc:aL Pg G f0 args' [] 0 res [] 0) (hf:dR res=true) (bs:List (Nat×Nat)) (hb:DJ M bs)
  (hm:cU.relVs (cA 0 []) (kP M bs) args' vs) (h6:vK (bs.map (·.1)) fp=true) (h:J fp ((d,res) :: E) (VM.bump M bs)):aM Pg T N ents G true ⟨some d, .call ⟨.value f,args,ats⟩,ty,pos,after,g⟩ J E M n:=by
 refine bB hd h1 h2 fp hc [] bs ⟨rfl,hb,rfl,hm,trivial⟩ rfl rfl rfl rfl h6 ?_
 rw [jj res hf]
 exact h
end
end
section
section
variable {Pg:Program} {T:bh} {E:VE} {M:VM} {n:Nat} {dst:Option Tmp} {t ty:TypeId} {pos:String} {after:Array Edge} {g:Option (Nat×Bool)} {R:MV×Dl→Prop} {x y:Operand} {c es k fo:Nat} {path:List Nat} {b:MB} {m m' r v:MV} {d:TD}
def FQ (T:bh) (t:TypeId) (es' es:Nat) (r:MV):Bool:=match bh.find T t with | some d=>a₆ es' es && eu d r | none=>false
def Ib (T:bh) (t:TypeId) (es' es:Nat) (row:Bool) (v:MV):Bool:=match bh.find T t with | some d=>a₆ es' es && eu d v && (!row || v.idFree) | none=>false
def xX:MV→List Nat→Option MV
 | m,[] =>some m
 | .st l,i :: p=>match bK l i with
  | some m=>xX m p
  | none=>none
 | .arr _ _ l,i :: p=>match bK l i with
  | some m=>xX m p
  | none=>none
 | _,_ :: _=>none
def Lk:MV→List Nat→Nat→Bool
 | _,[],fo=>a₆ fo 0
 | .st l,i :: p,fo=>match bK l i with
  | some m=>c₈ (eL l i) fo && Lk m p (fo - eL l i)
  | none=>false
 | .arr _ es l,i :: p,fo=>match bK l i with
  | some m=>c₈ (i * es) fo && Lk m p (fo - i * es)
  | none=>false
 | _,_ :: _,_=>false
theorem mc: ∀{p:List Nat} {m:MV} {fo:Nat},Lk m p fo=true→fE m p fo=xX m p
 | [],m,fo,h=>by
  have h':a₆ fo 0=true:=by unfold Lk at h;exact h
  unfold fE xX
  rw [h']
  rfl
 | i :: p,m,fo,h=>by
  unfold Lk at h
  unfold fE xX
  split at h
  ·exact nomatch ‹i :: p= []›
  ·rename_i heq
   injection heq with h1 h2
   subst h1 h2
   dsimp only
   split at h
   ·rename_i hn
    rw [a₀] at h
    rw [hn]
    dsimp only
    rw [h.1]
    exact mc h.2
   ·exact a₃ h
  ·rename_i heq
   injection heq with h1 h2
   subst h1 h2
   dsimp only
   split at h
   ·rename_i hn
    rw [a₀] at h
    rw [hn]
    dsimp only
    rw [h.1]
    exact mc h.2
   ·exact a₃ h
  ·exact a₃ h
def Af:MV→List Nat→MV→Option MV
 | _,[],v=>some v
 | .st l,i :: p,v=>match bK l i with
  | some m=>(match Af m p v with | some m'=>some (.st (setL l i m')) | none=>none)
  | none=>none
 | .arr n es l,i :: p,v=>match bK l i with
  | some m=>(match Af m p v with | some m'=>some (.arr n es (setL l i m')) | none=>none)
  | none=>none
 | _,_ :: _,_=>none
def rC:MV→List Nat→Nat→MV→Bool
 | m,[],fo,v=>(a₆ fo 0 && a₆ v.size m.size) && KS v.isAgg m.isAgg
 | .st l,i :: p,fo,v=>match bK l i with
  | some m=>c₈ (eL l i) fo && rC m p (fo - eL l i) v
  | none=>false
 | .arr _ es l,i :: p,fo,v=>match bK l i with
  | some m=>(c₈ (i * es) fo && v.idFree) && rC m p (fo - i * es) v
  | none=>false
 | _,_ :: _,_,_=>false
theorem me: ∀{p:List Nat} {m:MV} {fo:Nat} {v:MV},rC m p fo v=true→gi m p fo v=Af m p v
 | [],m,fo,v,h=>by
  have h':((a₆ fo 0 && a₆ v.size m.size) && KS v.isAgg m.isAgg)=true:=by unfold rC at h;exact h
  rw [a₀] at h'
  unfold gi Af
  rw [h'.1]
  have h2:=h'.2
  generalize v.isAgg=a at *
  generalize m.isAgg=b at *
  cases a <;> cases b <;> first | rfl | exact a₃ h2
 | i :: p,m,fo,v,h=>by
  unfold rC at h
  unfold gi Af
  split at h
  ·exact nomatch ‹i :: p= []›
  ·rename_i heq
   injection heq with h1 h2
   subst h1 h2
   dsimp only
   split at h
   ·rename_i hn
    rw [a₀] at h
    rw [hn]
    dsimp only
    rw [h.1,me h.2]
    rfl
   ·exact a₃ h
  ·rename_i heq
   injection heq with h1 h2
   subst h1 h2
   dsimp only
   split at h
   ·rename_i hn
    rw [a₀] at h
    rw [hn]
    dsimp only
    rw [h.1,me h.2]
    rfl
   ·exact a₃ h
  ·exact a₃ h
theorem xY (hp:iU (VE.get E) x=some (.ptr c es k fo path)) (hc:VM.get M c=some b) (hm:bK b.l k=some m) (hr:fE m path fo=some r) (hk:FQ T t b.es es r=true) (hR:R (r, .none)):(iI Pg T (VE.get E) (VM.get M) n ⟨dst, .load t x,ty,pos,after,g⟩).runP R:=by
 show(rd (VE.get E) x fun p=>gq T (VM.get M) t p).runP R
 unfold rd;rw [hp];unfold FQ at hk
 show(gq T (VM.get M) t (.ptr c es k fo path)).runP R
 unfold gq;cases ht:bh.find T t with
 | none=>rw [ht] at hk;exact a₃ hk
 | some d=>
  rw [ht] at hk;simp only [a₀] at hk;simp only [hc,hk.1,cond_true];refine⟨m,hm,r,hr,?_⟩;simp only [hk.2,cond_true];exact hR
theorem tN (hp:iU (VE.get E) x=some (.ptr c es k fo path)) (hy:iU (VE.get E) y=some v) (hc:VM.get M c=some b) (hpe:b.pe≤k) (hm:bK b.l k=some m) (hs:gi m path fo v=some m') (hk:Ib T t b.es es b.row v=true) (hR:R (.undef, .upd c (setL b.l k m'))):(iI Pg T (VE.get E) (VM.get M) n ⟨dst, .store t x y,ty,pos,after,g⟩).runP R:=by
 show(rd (VE.get E) x fun p=>rd (VE.get E) y fun v=>fG T (VM.get M) t p v).runP R
 unfold rd;rw [hp];dsimp only;rw [hy];unfold Ib at hk
 show(fG T (VM.get M) t (.ptr c es k fo path) v).runP R
 unfold fG;cases ht:bh.find T t with
 | none=>rw [ht] at hk;exact a₃ hk
 | some d=>
  rw [ht] at hk;simp only [hc];have hk':(a₆ b.es es && eu d v && (!b.row || v.idFree))=true:=hk;rw [hk'];exact⟨hpe,m,hm,m',hs,_,rfl,hR⟩
theorem tO (hx:iU (VE.get E) x=some v) (ht:bh.find T t=some d) (hk:eu d v=true) (hR:R (.ptr n d.size 0 0 [], .new ⟨t,d.size,false,0,[v]⟩)):(iI Pg T (VE.get E) (VM.get M) n ⟨dst, .box t x,ty,pos,after,g⟩).runP R:=by
 show(rd (VE.get E) x fun v=>zf T n t v).runP R
 unfold rd;rw [hx]
 show(zf T n t v).runP R
 unfold zf;rw [ht];simp only [hk,cond_true];exact hR
theorem mf (ht:bh.find T t=some d) (hz:gI T 9 t=some v) (hk:eu d v=true) (hR:R (.ptr n d.size 0 0 [], .new ⟨t,d.size,false,0,[v]⟩)):(iI Pg T (VE.get E) (VM.get M) n ⟨dst, .alloc t,ty,pos,after,g⟩).runP R:=by
 show(kI T n t).runP R
 unfold kI;rw [ht,hz];simp only [hk,cond_true];exact hR
theorem mg (hp:iU (VE.get E) x=some (.ptr c es k fo path)) (hc:VM.get M c=some b) (hm:bK b.l k=some m) (hr:xX m path=some r) (hk:(FQ T t b.es es r && Lk m path fo)=true) (hR:R (r, .none)):(iI Pg T (VE.get E) (VM.get M) n ⟨dst, .load t x,ty,pos,after,g⟩).runP R:=by
 rw [a₀] at hk;exact xY hp hc hm ((mc hk.2).trans hr) hk.1 hR
theorem mZ (hp:iU (VE.get E) x=some (.ptr c es k fo path)) (hy:iU (VE.get E) y=some v) (hc:VM.get M c=some b) (hpe:b.pe≤k) (hm:bK b.l k=some m) (hs:Af m path v=some m') (hk:(Ib T t b.es es b.row v && rC m path fo v)=true) (hR:R (.undef, .upd c (setL b.l k m'))):(iI Pg T (VE.get E) (VM.get M) n ⟨dst, .store t x y,ty,pos,after,g⟩).runP R:=by
 rw [a₀] at hk;exact tN hp hy hc hpe hm ((me hk.2).trans hs) hk.1 hR
variable {N:Nat} {ents:List FuncId} {G:GS} {ops:Array Oper} {rest:List Oper} {K:VK} {dd:Tmp}
theorem tP (hp:iU (VE.get E) x=some (.ptr c es k fo path)) (hc:VM.get M c=some b) (hm:bK b.l k=some m) (hr:xX m path=some r) (hk:((KH T N E ⟨some dd, .load t x,ty,pos,after,none⟩ && FQ T t b.es es r) && Lk m path fo)=true) (h:aj Pg T N ents G ops rest K ((dd,r) :: E) M (n + 1)):aj Pg T N ents G ops (⟨some dd, .load t x,ty,pos,after,none⟩ :: rest) K E M n:=by
 rw [a₀,a₀] at hk;exact wA hk.1.1 (fun R hR=>xY hp hc hm ((mc hk.2).trans hr) hk.1.2 hR) h
theorem o9 (hp:iU (VE.get E) x=some (.ptr c es k fo path)) (hy:iU (VE.get E) y=some v) (hc:VM.get M c=some b) (hpe:b.pe≤k) (hm:bK b.l k=some m) (hs:Af m path v=some m') (hk:((KH T N E ⟨none, .store t x y,ty,pos,after,none⟩ && Ib T t b.es es b.row v) && rC m path fo v)=true) (h:aj Pg T N ents G ops rest K E (Dl.app n (.upd c (setL b.l k m')) M) (n + 1)):aj Pg T N ents G ops (⟨none, .store t x y,ty,pos,after,none⟩ :: rest) K E M n:=by
 rw [a₀,a₀] at hk;exact qn hk.1.1 (fun R hR=>tN hp hy hc hpe hm ((me hk.2).trans hs) hk.1.2 hR) h
theorem tQ {l:List Oper} {q:Nat} {L:List (Nat×Bool)} {A:List pV} (ho:rY l q=some ⟨some dd, .load t x,ty,pos,after,none⟩) (hp:iU (VE.get E) x=some (.ptr c es k fo path)) (hc:VM.get M c=some b) (hm:bK b.l k=some m) (hr:xX m path=some r) (hk:((a₄ dd N && FQ T t b.es es r) && Lk m path fo)=true) (h:aG Pg T N ents G (a₅ l) L (⟨q,n,false,numsO (VE.get E) (Op.load t x).operands.toList⟩ :: A) K ((dd,r) :: E) M (n + 1)):aG Pg T N ents G (a₅ l) ((q,false) :: L) A K E M n:=by
 rw [a₀,a₀] at hk;exact wB ho (by rw [show fY (Op.load t x)=true from rfl,Bool.true_and];exact hk.1.1) (fun R hR=>xY hp hc hm ((mc hk.2).trans hr) hk.1.2 hR) h
theorem pa {l:List Oper} {q:Nat} {L:List (Nat×Bool)} {A:List pV} (ho:rY l q=some ⟨none, .store t x y,ty,pos,after,none⟩) (hp:iU (VE.get E) x=some (.ptr c es k fo path)) (hy:iU (VE.get E) y=some v) (hc:VM.get M c=some b) (hpe:b.pe≤k) (hm:bK b.l k=some m) (hs:Af m path v=some m') (hk:(Ib T t b.es es b.row v && rC m path fo v)=true) (h:aG Pg T N ents G (a₅ l) L (⟨q,n,false,numsO (VE.get E) (Op.store t x y).operands.toList⟩ :: A) K E (Dl.app n (.upd c (setL b.l k m')) M) (n + 1)):aG Pg T N ents G (a₅ l) ((q,false) :: L) A K E M n:=by
 rw [a₀] at hk;exact qo ho rfl (fun R hR=>tN hp hy hc hpe hm ((me hk.2).trans hs) hk.1 hR) h
theorem Ah (hx:iU (VE.get E) x=some v) (ht:bh.find T t=some d) (hk:(KH T N E ⟨some dd, .box t x,ty,pos,after,none⟩ && eu d v)=true) (h:aj Pg T N ents G ops rest K ((dd, .ptr n d.size 0 0 []) :: E) (Dl.app n (.new ⟨t,d.size,false,0,[v]⟩) M) (n + 1)):aj Pg T N ents G ops (⟨some dd, .box t x,ty,pos,after,none⟩ :: rest) K E M n:=by
 rw [a₀] at hk;exact tH hk.1 (fun R hR=>tO hx ht hk.2 hR) h
theorem pg (ht:bh.find T t=some d) (hz:gI T 9 t=some v) (hk:(KH T N E ⟨some dd, .alloc t,ty,pos,after,none⟩ && eu d v)=true) (h:aj Pg T N ents G ops rest K ((dd, .ptr n d.size 0 0 []) :: E) (Dl.app n (.new ⟨t,d.size,false,0,[v]⟩) M) (n + 1)):aj Pg T N ents G ops (⟨some dd, .alloc t,ty,pos,after,none⟩ :: rest) K E M n:=by
 rw [a₀] at hk;exact tH hk.1 (fun R hR=>mf ht hz hk.2 hR) h
end
section
mutual
def FR:MV→Bool
 | .int _ _=>true
 | .bool _=>true
 | .str _=>true
 | .nilp=>true
 | .arr .. =>true
 | .sl .. =>true
 | .st l=>rD l
 | _=>false
def rD:List MV→Bool
 | [] =>true
 | m :: l=>bif FR m then rD l else false
end
mutual
theorem Ll {M:FM}: ∀{v:MV} {K:MV×List (Nat×Nat)→Prop},FR v=true→K (v,[])→(cT M v).runP K
 | .int _ _,_,_,h=>h
 | .bool _,_,_,h=>h
 | .str _,_,_,h=>h
 | .nilp,_,_,h=>h
 | .nilf,_,hc,_=>a₃ hc
 | .nili,_,hc,_=>a₃ hc
 | .arr ..,_,_,h=>h
 | .sl ..,_,_,h=>h
 | .st l,_,hc,h=>tR (v:=l) hc h
 | .nils,_,hc,_=>a₃ hc
 | .ptr ..,_,hc,_=>a₃ hc
 | .gp ..,_,hc,_=>a₃ hc
 | .ep ..,_,hc,_=>a₃ hc
 | .ms ..,_,hc,_=>a₃ hc
 | .fn ..,_,hc,_=>a₃ hc
 | .ifc ..,_,hc,_=>a₃ hc
 | .tup _,_,hc,_=>a₃ hc
 | .undef,_,hc,_=>a₃ hc
theorem tR {M:FM}: ∀{v:List MV} {K:List MV×List (Nat×Nat)→Prop},rD v=true→K (v,[])→(fJ M v).runP K
 | [],_,_,h=>h
 | m :: l,_,hc,h=>by
  unfold rD at hc
  cases hm:FR m with
  | false=>rw [hm] at hc;exact a₃ hc
  | true=>
   rw [hm] at hc
   exact Ll hm (tR hc h)
end
theorem Cu {T:bh} {M:FM} {ty:TypeId} {p:MV} {K K':MV×Dl→Prop} (hk: ∀x,K x→K' x) (h:(gq T M ty p).runP K):(gq T M ty p).runP K':=by
 unfold gq at h ⊢;split at h
 ·exact h
 ·split at h
  ·split at h
   ·rename_i b _;cases hb:a₆ b.es _ with
    | false=>rw [hb] at h;exact h
    | true=>
     rw [hb] at h;obtain⟨m,hm,r,hr,h⟩:=h;refine⟨m,hm,r,hr,?_⟩;dsimp only at h ⊢;generalize eu _ r=q at *;cases q
     ·exact h
     ·exact hk _ h
   ·exact h
  ·obtain⟨r,hr,h⟩:=h;refine⟨r,hr,?_⟩;dsimp only at h ⊢;generalize eu _ r=q at *;cases q
   ·exact h
   ·exact hk _ h
  ·exact h
theorem gS {T:bh} {M:VM} {E:VE}: ∀{rs:List ResultVar} {K K':List MV→Prop},(∀v,K v→K' v)→dW T M E rs K→dW T M E rs K'
 | [],_,_,hk,h=>hk _ h
 | .tmp t :: l,K,K',hk,h=>by
  unfold dW at h ⊢
  split at h
  ·exact gS (fun v hv=>hk _ hv) h
  ·exact h
 | .cell p ty :: l,K,K',hk,h=>by
  unfold dW at h ⊢
  split at h
  ·exact Cu (fun x hx=>gS (fun v hv=>hk _ hv) hx) h
  ·exact h
theorem wC {T:bh} {rs:List ResultVar} {res:MV} {M:VM} {E:VE} {n:Nat} (vs:List MV) (hR:kV vs=res) (hc:rD vs=true) (h1:dW T M E rs (fun v=>v=vs)):H4 T rs (fun r=>r=res) .ret E M n:=
 gS (fun v hv=>by subst hv;exact tR hc hR) h1
end
end
section
def tab:bh:= [(1, .fn),(2, .int .i64),(3, .int .i64),(4, .bool),(5, .int .u8),(6, .int .u8),(7, .struct [(0,2),(1,3),(2,4),(3,6)] 4),(8, .struct [(0,2),(1,3),(2,4),(3,6)] 4),(9, .str),(10, .str),(11, .str),(12, .int .u64),(13, .struct [(0,9),(1,12)] 2),(14, .struct [(0,9),(1,12)] 2),(15, .ptr),(16, .ptr),(17, .ptr),(18, .struct [(0,17)] 1),(19, .struct [(0,17)] 1),(20, .iface),(21, .int .i32),(22, .int .u64),(23, .struct [(0,3),(1,3),(2,3),(3,3),(4,3),(5,3),(6,4),(7,3),(8,3),(9,22),(10,3),(11,3)] 12),(24, .struct [(0,3),(1,3),(2,3),(3,3),(4,3),(5,3),(6,4),(7,3),(8,3),(9,22),(10,3),(11,3)] 12),(25, .slice 87 3),(26, .slice 3 1),(27, .fn),(28, .fn),(29, .ptr),(30, .fn),(31, .fn),(32, .slice 24 12),(33, .fn),(34, .slice 25 1),(35, .struct [(0,25),(1,22)] 2),(36, .struct [(0,25),(1,22)] 2),(37, .struct [(0,36),(2,36),(4,36),(6,4),(7,22)] 8),(38, .struct [(0,36),(2,36),(4,36),(6,4),(7,22)] 8),(39, .slice 64 41),(40, .slice 55 32),(41, .struct [(0,24),(12,38),(20,3),(21,3),(22,3),(23,39),(24,40)] 25),(42, .struct [(0,24),(12,38),(20,3),(21,3),(22,3),(23,39),(24,40)] 25),(43, .int .i64),(45, .fn),(46, .fn),(47, .fn),(49, .fn),(50, .fn),(51, .slice 5 1),(52, .fn),(53, .slice 51 1),(54, .arr 32 5 1),(55, .arr 32 5 1),(56, .struct [(0,43),(1,55),(33,22),(34,40),(35,40),(36,40),(37,40),(38,40),(39,53),(40,3),(41,55)] 73),(57, .struct [(0,43),(1,55),(33,22),(34,40),(35,40),(36,40),(37,40),(38,40),(39,53),(40,3),(41,55)] 73),(59, .fn),(60, .fn),(61, .fn),(62, .fn),(63, .struct [(0,55),(32,51),(33,9),(34,22),(35,22),(36,22),(37,3),(38,3),(39,3),(40,26)] 41),(64, .struct [(0,55),(32,51),(33,9),(34,22),(35,22),(36,22),(37,3),(38,3),(39,3),(40,26)] 41),(65, .fn),(66, .fn),(67, .fn),(68, .fn),(69, .fn),(70, .fn),(71, .fn),(72, .fn),(73, .fn),(74, .struct [(0,26),(1,3)] 2),(75, .struct [(0,26),(1,3)] 2),(77, .fn),(78, .fn),(79, .fn),(80, .fn),(81, .fn),(82, .fn),(83, .fn),(84, .slice 26 1),(85, .fn),(86, .struct [(0,9),(1,22),(2,22)] 3),(87, .struct [(0,9),(1,22),(2,22)] 3),(88, .fn),(89, .slice 9 1),(90, .slice 22 1),(91, .fn),(93, .fn),(94, .fn),(95, .fn),(97, .fn),(98, .slice 129 2),(99, .struct [(0,9),(1,22),(2,22),(3,22),(4,9),(5,98)] 6),(100, .struct [(0,9),(1,22),(2,22),(3,22),(4,9),(5,98)] 6),(101, .fn),(102, .fn),(103, .fn),(104, .struct [(0,43),(1,9),(2,22),(3,22),(4,22)] 5),(105, .struct [(0,43),(1,9),(2,22),(3,22),(4,22)] 5),(106, .fn),(107, .fn),(108, .fn),(109, .fn),(110, .fn),(111, .fn),(112, .fn),(114, .fn),(115, .fn),(116, .fn),(117, .fn),(118, .int .u32),(119, .arr 8 118 1),(120, .fn),(121, .fn),(122, .fn),(123, .fn),(124, .fn),(125, .fn),(126, .fn),(127, .fn),(128, .struct [(0,9),(1,22)] 2),(129, .struct [(0,9),(1,22)] 2),(130, .struct [(0,22),(1,4)] 2),(131, .struct [(0,22),(1,4)] 2),(132, .struct [(0,9),(1,131),(3,131),(5,131)] 7),(133, .struct [(0,9),(1,131),(3,131),(5,131)] 7),(134, .arr 12 133 7),(135, .fn),(137, .fn),(138, .fn),(140, .fn),(141, .fn),(142, .fn),(143, .fn),(144, .fn),(145, .fn),(146, .fn),(147, .fn),(148, .fn),(149, .fn),(150, .fn),(151, .fn),(152, .fn),(153, .fn),(155, .fn),(156, .fn),(157, .fn),(158, .fn),(159, .arr 64 118 1),(160, .int .u64),(161, .fn),(162, .fn),(163, .fn),(164, .fn),(165, .ptr),(166, .arr 12 165 1),(167, .fn),(168, .ptr),(169, .fn),(170, .other),(171, .fn),(172, .struct [] 0),(175, .fn),(176, .fn),(177, .fn),(178, .fn),(179, .fn),(180, .fn),(181, .fn),(182, .fn),(183, .slice 188 4),(184, .fn),(185, .fn),(186, .fn),(187, .struct [(0,3),(1,3),(2,22),(3,51)] 4),(188, .struct [(0,3),(1,3),(2,22),(3,51)] 4),(189, .fn),(190, .ptr),(191, .fn),(192, .fn),(193, .fn),(194, .fn),(195, .fn),(196, .fn),(197, .fn),(198, .fn),(199, .fn),(201, .fn),(202, .fn),(203, .fn),(204, .fn),(205, .fn),(206, .fn),(207, .fn),(208, .fn),(209, .fn),(211, .fn),(212, .fn),(213, .fn),(214, .arr 8 118 1),(215, .fn),(216, .struct [(0,214),(8,51),(9,3)] 10),(217, .struct [(0,214),(8,51),(9,3)] 10),(218, .fn),(219, .fn),(220, .ptr),(221, .int .u64),(222, .struct [(0,17),(1,220),(2,221)] 3),(223, .struct [(0,17),(1,220),(2,221)] 3),(224, .fn),(225, .fn),(226, .fn),(227, .fn),(228, .struct [(0,197),(1,225)] 2),(229, .struct [(0,197),(1,225)] 2),(230, .fn),(232, .fn),(234, .fn),(236, .fn),(237, .fn),(238, .fn),(239, .fn),(240, .int .i64),(242, .fn),(243, .fn),(244, .fn),(245, .fn),(246, .fn),(247, .fn),(248, .fn),(249, .fn),(250, .ptr),(251, .fn),(252, .fn),(253, .fn),(254, .fn),(255, .fn),(256, .struct [(0,17)] 1),(257, .struct [(0,17)] 1),(258, .ptr),(259, .fn),(260, .fn),(262, .fn),(264, .fn),(265, .fn),(267, .fn),(268, .fn),(269, .fn),(270, .int .u64),(271, .fn),(272, .fn),(273, .fn),(274, .fn),(275, .fn),(276, .fn),(277, .struct [(0,51)] 1),(278, .struct [(0,51)] 1),(279, .fn),(280, .fn),(281, .fn),(282, .fn),(283, .fn),(285, .fn),(286, .ptr),(288, .fn),(289, .ptr),(293, .fn),(294, .iface),(295, .iface),(296, .fn),(297, .fn),(298, .arr 256 5 1),(299, .struct [(0,5),(1,5)] 2),(300, .struct [(0,5),(1,5)] 2),(301, .arr 16 300 2),(302, .ptr),(303, .fn),(304, .struct [(0,17),(1,17),(2,17),(3,9)] 4),(305, .struct [(0,17),(1,17),(2,17),(3,9)] 4),(309, .int .u8),(310, .int .u8),(311, .fn),(312, .ptr),(313, .int .i32),(314, .int .i32),(315, .struct [(0,12),(1,12),(2,118),(3,309),(4,5),(5,5),(6,310),(7,311),(8,312),(9,313),(10,314)] 11),(316, .struct [(0,12),(1,12),(2,118),(3,309),(4,5),(5,5),(6,310),(7,311),(8,312),(9,313),(10,314)] 11),(317, .struct [(0,9),(1,310)] 2),(318, .struct [(0,9),(1,310)] 2),(319, .struct [(0,9)] 1),(320, .struct [(0,9)] 1)]
def ents:List FuncId:= [2,3,4,5,6,7,8,9,10,11,12,13,14,15,16,17,18,19,20,21,22,23,24,25,26,27,28,29,30,31,32,33,34,35,36,37,38,39,40,41,42,43,44,45,46,47,48,49,50,51,52,53,54,55,56,57,58,59,60,61,62,63,64,65,66,67,68,69,70,71,72,73,74,75,76,77,78,79,80,81,82,83,84,85,86,87,88,89,90,91,92,93,94,95,96,97,98,99,100,101,102,103,104,105,106,107,108,109,110,111,112,113,114,115,116,117,118,119,120,121,122,123,124,125,126,127,128,129,130,131,132,133,134,135,136,137,138,139,140,141,142,143,144,145,146,147,148,149,150,151,152,153,154,155,156,157,158,159,160,161,162,163,164,165,166,169,171,172,173,174,175,176,177,178,179,180,181,182,183,184,185,186,187,188,189,190,191,192,193,194,195,196,197,198,199,200,201,202,203,204,205,215,216,217,218,219,220,221,223,224,225,226,227,228,229,230,231,232,233,234,235,236,237,238,239,240,242,243,244,245,246,247,248,249,250,251,252,253,254,255,256,282]
def Nt (P:Program) (f:FuncId):Bool:=match P.funcs[f]? with | some fn=>fn.body.isSome && !(fn.name == "runtime.NumGoroutine") | none=>false
theorem tS {P:Program} {f:FuncId} (h:Nt P f=true) (args:Array Value) (w:World):(callFunc f args).run P w= .ok (.enter f args) w:=by
 unfold Nt at h;split at h
 ·rename_i fn hf;simp only [a₀,b₁] at h;obtain⟨h1,h2⟩:=h;obtain⟨c,hc⟩:=Option.isSome_iff_exists.1 h1;exact enters_of hf h2 hc args w
 ·cases h
theorem seat:Seat Tryz.prog tab ents:=⟨⟨by kernel_rfl⟩,fun f hf=>tS (a₇.1 (show ents.all (Nt Tryz.prog)=true by kernel_rfl) f hf),by kernel_rfl⟩
end
section
theorem sv {α:Type} {a b:α} (h:a=b):some a=some b:=congrArg some h
theorem iL.of {n0:Nat} {E':VE} {M':VM} {n':Nat} {E:VE} {M:VM} (σ bs:List (Nat×Nat)) (h1:mE (cA n0 σ) (kP M bs) E' E) (h2:mM (cA n0 σ) (kP M bs) M' (VM.bump M bs)) (h3:rV n0 n' σ=true) (h4:DJ M bs) (h5:M'.all (fun x=>a₄ x.1 n')=true):iL n0 E' M' n' E M:=⟨σ,bs,h3,h4,h5,h1,h2⟩
theorem Lm (x n:Int) (hn:0 < n):(if x.tmod n < 0 then x.tmod n + n else x.tmod n)=x % n:=by
 rw [Int.tmod_eq_emod];have h1:=Int.emod_nonneg x (show n≠0 by omega);have h2:=Int.emod_lt_of_pos x hn;have e:(n.natAbs:Int)=n:=om;split <;> split at * <;> omega
theorem fK {l:List MV} {n k:Nat} {x:MV} (hk:k < n) (hx:l[k]? =some x):db l n (k:Int)=some x:=by
 unfold db;rw [if_pos om];simpa using hx
theorem cB {n k:Nat} (hk:k < n):DC n (k:Int)=some k:=by
 unfold DC;rw [if_pos om];simp
theorem bV {α:Type} (f:α→MV) (l:List α):cutL (l.map f) 0 (0 + l.length)=l.map f:=by simp [cutL,List.take_of_length_le]
theorem aF {n m k:Nat} (hb:c₈ k 4096=true) (h:n + m≤2000000000):(n + m) * k≤140737488355328∧n + m≤maxLen:=by
 have hb:=d₁ hb;have:=Nat.mul_le_mul h hb;have e:maxLen=9223372036854775807:=rfl;omega
theorem pj {m k:Nat} (hb:c₈ k 4096=true) (h:m≤2000000000):m * k≤140737488355328∧m≤maxLen:=by
 have:=aF (n:=0) (m:=m) hb om;rw [Nat.zero_add] at this;exact this
def bS (l:List Int):MV:= .sl l.length (l.map (.int .i64))
theorem po {l:List Int} {k:Nat} (hk:k < l.length):db (l.map (MV.int .i64)) l.length (k:Int)=some (.int .i64 l[k]):=fK hk (by simp [hk])
end
section
variable {R:MV×Dl→Prop}
theorem OO {x:Int} (h:R (.bool true, .none)):R (.bool (x == x), .none):=by rw [beq_self_eq_true];exact h
theorem OP {x:Int} (h:R (.bool false, .none)):R (.bool (x !=x), .none):=by rw [bne_self_eq_false];exact h
theorem OQ {x:List UInt8} (h:R (.bool true, .none)):R (.bool (x == x), .none):=by rw [beq_self_eq_true];exact h
theorem OR {x:List UInt8} (h:R (.bool false, .none)):R (.bool (!(x == x)), .none):=by rw [beq_self_eq_true];exact h
theorem eH: ∀l:List UInt8,kH (u8s l)=some l
 | [] =>rfl
 | a :: l=>by
  show(if 0≤(a.toNat:Int)∧(a.toNat:Int) < 256 then(match kH (u8s l) with | some r=>some (UInt8.ofNat (Int.toNat (a.toNat:Int)) :: r) | none=>none) else none)=_
  have:=a.toNat_lt
  rw [if_pos om,eH l]
  simp
end
section
theorem w32 (n:Int):IntKind.u32.wrap n=n % 4294967296:=by
 simp only [IntKind.wrap,IntKind.bits,IntKind.signed];simp
theorem w8 (n:Int):IntKind.u8.wrap n=n % 256:=by
 simp only [IntKind.wrap,IntKind.bits,IntKind.signed];simp
theorem wu64 (n:Int):IntKind.u64.wrap n=n % 18446744073709551616:=by
 simp only [IntKind.wrap,IntKind.bits,IntKind.signed];simp
abbrev dH (x:UInt32):MV:= .int .u32 x.toNat
abbrev Ln (x:UInt8):MV:= .int .u8 x.toNat
theorem eD (n m:Nat) (h:m < 2 ^ n):(BitVec.ofInt n (m:Int)).toNat=m:=by
 rw [BitVec.toNat_ofInt];have e:((2 ^ n:Nat):Int)=(2:Int) ^ n:=sm;have:((m:Int) % ((2 ^ n:Nat):Int)).toNat=m:=by
  rw [← d₉,Int.toNat_natCast,b₉ h]
 exact this
theorem Lo (x:UInt32):x.toNat < 4294967296:=x.toNat_lt
theorem t8 (x:UInt8):x.toNat < 256:=x.toNat_lt
theorem Ai (x y:UInt32):IntKind.u32.wrap ((x.toNat:Int) + (y.toNat:Int))=((x + y).toNat:Int):=by
 rw [w32,UInt32.toNat_add];omega
theorem Aj (x y:UInt32):IntKind.u32.wrap ((BitVec.ofInt IntKind.u32.bits (x.toNat:Int) &&& BitVec.ofInt IntKind.u32.bits (y.toNat:Int)).toNat:Int)=((x &&& y).toNat:Int):=by
 have h:=Lo (x &&& y);rw [BitVec.toNat_and,eD _ _ (Lo x),eD _ _ (Lo y),← UInt32.toNat_and,w32];omega
theorem Ic (x y:UInt32):IntKind.u32.wrap ((BitVec.ofInt IntKind.u32.bits (x.toNat:Int) ||| BitVec.ofInt IntKind.u32.bits (y.toNat:Int)).toNat:Int)=((x ||| y).toNat:Int):=by
 have h:=Lo (x ||| y);rw [BitVec.toNat_or,eD _ _ (Lo x),eD _ _ (Lo y),← UInt32.toNat_or,w32];omega
theorem wD (x y:UInt32):IntKind.u32.wrap ((BitVec.ofInt IntKind.u32.bits (x.toNat:Int) ^^^ BitVec.ofInt IntKind.u32.bits (y.toNat:Int)).toNat:Int)=((x ^^^ y).toNat:Int):=by
 have h:=Lo (x ^^^ y);rw [BitVec.toNat_xor,eD _ _ (Lo x),eD _ _ (Lo y),← UInt32.toNat_xor,w32];omega
theorem Ak (y:UInt32):IntKind.u32.wrap ((BitVec.ofInt IntKind.u32.bits (if IntKind.u32.signed then -1 else IntKind.u32.max) ^^^ BitVec.ofInt IntKind.u32.bits (y.toNat:Int)).toNat:Int)=((~~~y).toNat:Int):=by
 have e:(if IntKind.u32.signed then(-1:Int) else IntKind.u32.max)=(((-1:UInt32)).toNat:Int):=by rfl
 rw [e,wD];have h:(-1:UInt32) ^^^ y= ~~~y:=by
  apply UInt32.toBitVec_inj.1;rw [UInt32.toBitVec_xor,UInt32.toBitVec_not];exact BitVec.allOnes_xor
 rw [h]
theorem Ie (x:UInt32) (k:Nat) (hk:k < 32):IntKind.u32.wrap ((x.toNat:Int) * 2 ^ (min (k:Int).toNat IntKind.u32.bits))=((x <<< UInt32.ofNat k).toNat:Int):=by
 have e:min (k:Int).toNat IntKind.u32.bits=k:=by simp [IntKind.bits];omega
 rw [e,w32,UInt32.toNat_shiftLeft,UInt32.toNat_ofNat',b₉ (show k < 2 ^ 32 by omega),b₉ hk,Nat.shiftLeft_eq];rw [show (x.toNat:Int) * 2 ^ k=((x.toNat * 2 ^ k:Nat):Int) by rw [Int.natCast_mul,e₄];rfl];exact(d₉ (x.toNat * 2 ^ k) 4294967296).symm
theorem tT (x:UInt32) (k:Nat) (hk:k < 32):((x.toNat:Int).fdiv (2 ^ (min (k:Int).toNat IntKind.u32.bits)))=((x >>> UInt32.ofNat k).toNat:Int):=by
 have e:min (k:Int).toNat IntKind.u32.bits=k:=by simp [IntKind.bits];omega
 rw [e,UInt32.toNat_shiftRight,UInt32.toNat_ofNat',b₉ (show k < 2 ^ 32 by omega),b₉ hk,Nat.shiftRight_eq_div_pow,Int.fdiv_eq_ediv_of_nonneg _ (Int.le_of_lt (Int.pow_pos om))];rw [Int.natCast_ediv,e₄];rfl
theorem Ig (x:UInt32) (j:Int) (h0:0≤j) (h1:j < 32):IntKind.u32.wrap ((x.toNat:Int) * 2 ^ (min j.toNat IntKind.u32.bits))=((x <<< UInt32.ofNat j.toNat).toNat:Int):=by
 have:=Ie x j.toNat om
 rwa [d₄ h0] at this
theorem Ih (x:UInt32) (j:Int) (h0:0≤j) (h1:j < 32):((x.toNat:Int).fdiv (2 ^ (min j.toNat IntKind.u32.bits)))=((x >>> UInt32.ofNat j.toNat).toNat:Int):=by
 have:=tT x j.toNat om
 rwa [d₄ h0] at this
theorem pq (x:UInt8):IntKind.u32.wrap (x.toNat:Int)=((x.toUInt32).toNat:Int):=by
 have:=t8 x;rw [w32,UInt8.toNat_toUInt32];omega
theorem i6 (x:UInt32):IntKind.u8.wrap (x.toNat:Int)=((x.toUInt8).toNat:Int):=by
 rw [w8,UInt32.toNat_toUInt8];omega
end
section
structure Hm (q:Prop):Prop where
 out:q
structure aX {α:Type} (a b:α):Prop where
 out:a=b
structure al {α:Type} (a:Option α) (b:α):Prop where
 out':a=some b
theorem al.out {α:Type} {a:Option α} {b:α} (h:al a b):a=some b:=h.out'
structure bJ (p:Prop):Prop where
 out:p
theorem pf {p:Prop} (h:p:=by first | rfl | omega | (simp [u8s,cutL,setL,repM,List.replicate_succ',List.range_succ];done) | (simp [u8s,cutL,setL,repM];omega)):p:=h
theorem rv0 {p:Prop} (h:p:=by (first | exact⟨rfl,rfl⟩ | exact .inr ⟨rfl,rfl⟩ | exact .inr ⟨rfl,rfl,rfl,Nat.le_refl _,rfl⟩ | exact .inl rfl | exact .inl ⟨rfl,rfl⟩ | exact⟨_,rfl,rfl⟩ | exact .inr ⟨_,rfl,rfl⟩ | exact .inl ⟨rfl,rfl,rfl⟩ | exact⟨congrArg (MV.int _) (by omega),rfl⟩ | exact .inr ⟨rfl,rfl,rfl,Nat.le_of_eq (Nat.zero_add _),bV _ _⟩ | fail)):p:=h
theorem Qz {p:Prop} (h:p:=by (repeat(first | exact trivial | refine And.intro rv0 ?_));first | done | fail):p:=h
theorem rv1 {p:Prop} (h:p:=by (first | exact rv0 | (refine .inr ⟨_,rfl,?_⟩;exact rv0) | (refine .inr ⟨_,rfl,?_⟩;exact Qz) | fail)):p:=h
theorem QA {p:Prop} (h:p:=by (repeat(first | exact trivial | refine And.intro rv1 ?_));first | done | fail):p:=h
theorem rv2 {p:Prop} (h:p:=by (first | exact rv1 | (refine .inr ⟨_,rfl,?_⟩;exact rv1) | (refine .inr ⟨_,rfl,?_⟩;exact QA) | fail)):p:=h
theorem QB {p:Prop} (h:p:=by (repeat(first | exact trivial | refine And.intro rv2 ?_));first | done | fail):p:=h
theorem rv {p:Prop} (h:p:=by (first | exact rv2 | (refine .inr ⟨_,rfl,?_⟩;exact rv2) | (refine .inr ⟨_,rfl,?_⟩;exact QB) | fail)):p:=h
theorem lm {p:Prop} (h:p:=by (repeat(first | exact trivial | refine And.intro rv ?_))):p:=h
theorem mm {p:Prop} (h:p:=by (repeat(first | exact trivial | refine⟨Nat.le_refl _,?_⟩ | refine⟨⟨_,rfl,rv⟩,?_⟩ | refine⟨.inl ⟨rfl,rfl,rfl,rfl⟩,?_⟩ | refine⟨.inr ⟨_,_,rfl,rfl,rfl,rfl, .inl rfl, .inl rfl, .inl ⟨rfl,rfl⟩⟩,?_⟩ | refine⟨.inr ⟨_,_,rfl,rfl,rfl,rfl, .inl rfl, .inl rfl, .inl ⟨(by simp [u8s]),rfl⟩⟩,?_⟩ | refine⟨.inr ⟨_,_,rfl,rfl,rfl,rfl, .inl rfl, .inr ⟨(by first | exact Nat.max_le.2 ⟨Nat.zero_le _,Nat.le_refl _⟩ | exact Nat.max_le.2 ⟨Nat.le_refl _,Nat.le_refl _⟩),(by simp [u8s])⟩, .inl ⟨rfl,rfl⟩⟩,?_⟩ | refine⟨.inr ⟨_,_,rfl,rfl,rfl,rfl, .inl rfl, .inl rfl, .inr ⟨rv,trivial⟩⟩,?_⟩ | refine⟨(show _≤_ by simp [u8s]),?_⟩ | refine⟨.inr ⟨_,_,rfl,rfl,rfl,rfl, .inr (.inl ⟨rfl,rfl,rfl,bJ.out (by assumption)⟩), .inl rfl, .inl ⟨rfl,rfl⟩⟩,?_⟩))):p:=h
theorem jR {p:Prop} (h:p:=by intro R hR;first | ((with_reducible apply mg);exact rfl;exact rfl;exact rfl;exact rfl;kernel_rfl;exact hR) | ((with_reducible apply mZ);exact rfl;exact rfl;exact rfl;exact Nat.zero_le _;exact rfl;exact rfl;kernel_rfl;exact hR) | ((with_reducible apply tO);exact rfl;exact rfl;kernel_rfl;exact hR) | ((with_reducible apply mf);exact rfl;exact rfl;kernel_rfl;exact hR) | (repeat(first | exact hR | ((try conv=>whnf);first | exact hR | (with_reducible refine⟨_,sv (aX.out (by assumption)),?_⟩) | (with_reducible refine And.intro (bJ.out (by assumption)) ?_) | (with_reducible refine And.intro (Nat.zero_le _) ?_) | (with_reducible refine And.intro rfl ?_) | (with_reducible refine⟨_,cB (by omega),?_⟩) | (with_reducible refine⟨fun _=>?_,fun h=>Bool.noConfusion h⟩) | (with_reducible refine⟨fun h=>Bool.noConfusion h,fun _=>?_⟩) | (with_reducible refine⟨_,sv (eM _ (by omega) (by omega)),?_⟩) | (with_reducible refine⟨_,sv (bu _ (by omega) (by omega)),?_⟩) | (with_reducible refine⟨_,sv (gm _ (by omega) (by omega)),?_⟩) | (refine⟨_,rfl,?_⟩) | (refine⟨_,al.out (by assumption),?_⟩) | (refine And.intro (by omega) ?_))));first | done | fail):p:=h
theorem D0 {p:Prop} (h:p:=by intro R hR;first | ((with_reducible apply mg);exact rfl;exact rfl;exact rfl;exact rfl;kernel_rfl;exact hR) | ((with_reducible apply mZ);exact rfl;exact rfl;exact rfl;exact Nat.zero_le _;exact rfl;exact rfl;kernel_rfl;exact hR) | ((with_reducible apply tO);exact rfl;exact rfl;kernel_rfl;exact hR) | ((with_reducible apply mf);exact rfl;exact rfl;kernel_rfl;exact hR) | (repeat(first | exact hR | ((try conv=>whnf);first | exact hR | (with_reducible refine⟨_,sv (aX.out (by assumption)),?_⟩) | (with_reducible refine And.intro (bJ.out (by assumption)) ?_) | (with_reducible refine And.intro (Nat.zero_le _) ?_) | (with_reducible refine And.intro rfl ?_) | (with_reducible refine⟨_,sv (Ai _ _),?_⟩) | (with_reducible refine⟨_,sv (wD _ _),?_⟩) | (with_reducible refine⟨_,sv (Aj _ _),?_⟩) | (with_reducible refine⟨_,sv (Ic _ _),?_⟩) | (with_reducible refine⟨_,sv (Ak _),?_⟩) | (with_reducible refine⟨_,sv (Ig _ _ (by omega) (by omega)),?_⟩) | (with_reducible refine⟨_,sv (Ih _ _ (by omega) (by omega)),?_⟩) | (with_reducible refine⟨_,sv (pq _),?_⟩) | (with_reducible refine⟨_,sv (i6 _),?_⟩) | (with_reducible refine⟨fun _=>?_,fun h=>Bool.noConfusion h⟩) | (with_reducible refine⟨fun h=>Bool.noConfusion h,fun _=>?_⟩) | (with_reducible refine⟨_,sv (eM _ (by omega) (by omega)),?_⟩) | (with_reducible refine⟨_,sv (bu _ (by omega) (by omega)),?_⟩) | (with_reducible refine⟨_,sv (gm _ (by omega) (by omega)),?_⟩) | (refine⟨_,rfl,?_⟩) | (refine⟨_,al.out (by assumption),?_⟩) | (refine And.intro (by omega) ?_))));first | done | fail):p:=h
theorem D8 {p:Prop} (h:p:=by intro R hR;first | ((with_reducible apply mg);exact rfl;exact rfl;exact rfl;exact rfl;kernel_rfl;exact hR) | ((with_reducible apply mZ);exact rfl;exact rfl;exact rfl;exact Nat.zero_le _;exact rfl;exact rfl;kernel_rfl;exact hR) | ((with_reducible apply tO);exact rfl;exact rfl;kernel_rfl;exact hR) | ((with_reducible apply mf);exact rfl;exact rfl;kernel_rfl;exact hR) | (repeat((try conv=>whnf);first | (with_reducible exact OO hR) | (with_reducible exact OP hR) | (with_reducible exact OQ hR) | (with_reducible exact OR hR) | exact hR | (with_reducible refine⟨_,sv (aX.out (by assumption)),?_⟩) | (with_reducible refine And.intro (bJ.out (by assumption)) ?_) | (with_reducible refine And.intro (Nat.zero_le _) ?_) | (with_reducible refine And.intro rfl ?_) | (with_reducible refine⟨_,cB (by omega),?_⟩) | (with_reducible refine⟨fun _=>?_,fun h=>Bool.noConfusion h⟩) | (with_reducible refine⟨fun h=>Bool.noConfusion h,fun _=>?_⟩) | (with_reducible refine⟨_,sv (eM _ (by omega) (by omega)),?_⟩) | (with_reducible refine⟨_,sv (bu _ (by omega) (by omega)),?_⟩) | (with_reducible refine⟨_,sv (gm _ (by omega) (by omega)),?_⟩) | (refine⟨_,rfl,?_⟩) | (refine⟨_,al.out (by assumption),?_⟩) | (refine And.intro (by omega) ?_)));first | done | fail):p:=h
theorem aw {p q:Prop} (h:q) (s:Hm q→p:=by intro hq;(repeat((try conv=>whnf);first | (with_reducible refine Rt.go ?_) | (with_reducible refine Rs.go ?_) | (with_reducible refine tF ?_) | (with_reducible refine And.intro (Nat.zero_le _) ?_) | (with_reducible refine And.intro rfl ?_) | (with_reducible refine⟨_,cB (by omega),?_⟩) | (with_reducible refine⟨fun _=>?_,fun h=>Bool.noConfusion h⟩) | (with_reducible refine⟨fun h=>Bool.noConfusion h,fun _=>?_⟩) | (with_reducible refine⟨_,sv (eM _ (by omega) (by omega)),?_⟩) | (with_reducible refine⟨_,sv (bu _ (by omega) (by omega)),?_⟩) | (with_reducible refine⟨_,sv (gm _ (by omega) (by omega)),?_⟩) | refine⟨_,rfl,?_⟩ | refine And.intro (show gw _ _ _=true by kernel_rfl) ?_ | refine And.intro (by omega) ?_));exact hq.out):p:=s ⟨h⟩
theorem aR {p q:Prop} (h:q) (s:Hm q→p:=by intro hq;(repeat((try conv=>whnf);first | (with_reducible refine Rt.go ?_) | (with_reducible refine Rs.go ?_) | (with_reducible refine tF ?_) | (with_reducible refine And.intro (Nat.zero_le _) ?_) | (with_reducible refine And.intro rfl ?_) | (with_reducible refine⟨fun _=>?_,fun h=>Bool.noConfusion h⟩) | (with_reducible refine⟨fun h=>Bool.noConfusion h,fun _=>?_⟩) | (with_reducible refine⟨_,sv (Ai _ _),?_⟩) | (with_reducible refine⟨_,sv (wD _ _),?_⟩) | (with_reducible refine⟨_,sv (Aj _ _),?_⟩) | (with_reducible refine⟨_,sv (Ic _ _),?_⟩) | (with_reducible refine⟨_,sv (Ak _),?_⟩) | (with_reducible refine⟨_,sv (Ig _ _ (by omega) (by omega)),?_⟩) | (with_reducible refine⟨_,sv (Ih _ _ (by omega) (by omega)),?_⟩) | (with_reducible refine⟨_,sv (pq _),?_⟩) | (with_reducible refine⟨_,sv (i6 _),?_⟩) | (with_reducible refine⟨_,sv (eM _ (by omega) (by omega)),?_⟩) | (with_reducible refine⟨_,sv (bu _ (by omega) (by omega)),?_⟩) | (with_reducible refine⟨_,sv (gm _ (by omega) (by omega)),?_⟩) | refine⟨_,rfl,?_⟩ | refine And.intro (show gw _ _ _=true by kernel_rfl) ?_ | refine And.intro (by omega) ?_));exact hq.out):p:=s ⟨h⟩
theorem ad {p q:Prop} (h:q) (s:Hm q→p:=by intro hq;(repeat(first | ((with_reducible apply tP);exact rfl;exact rfl;exact rfl;exact rfl;kernel_rfl) | ((with_reducible apply o9);exact rfl;exact rfl;exact rfl;exact Nat.zero_le _;exact rfl;exact rfl;kernel_rfl) | ((with_reducible apply Ah);exact rfl;exact rfl;kernel_rfl) | ((with_reducible apply pg);exact rfl;exact rfl;kernel_rfl) | ((with_reducible apply wA);exact rfl;exact jR) | ((with_reducible apply xV)) | ((with_reducible apply tJ)) | ((with_reducible apply Aa)) | ((with_reducible apply tE)) | ((with_reducible apply tQ);exact rfl;exact rfl;exact rfl;exact rfl;exact rfl;kernel_rfl) | ((with_reducible apply pa);exact rfl;exact rfl;exact rfl;exact rfl;exact Nat.zero_le _;exact rfl;exact rfl;kernel_rfl) | ((with_reducible apply wB);exact rfl;exact rfl;exact jR) | ((with_reducible apply Ac);(exact(show gw _ _ _=true by kernel_rfl))) | ((with_reducible apply qn);exact rfl;exact jR) | ((with_reducible apply tH);exact rfl;exact jR) | ((with_reducible apply tI);exact rfl;exact rfl;exact rfl;exact jR) | ((with_reducible apply l7);exact rfl;exact rfl;exact rfl) | ((with_reducible apply l8);exact rfl;exact rfl;exact rfl) | ((with_reducible apply tG);exact rfl;exact rfl;exact jR;exact rfl) | ((with_reducible apply qm);exact rfl;exact rfl;exact jR) | ((with_reducible apply bc);exact rfl;exact rfl;exact jR;exact rfl) | ((with_reducible apply DZ)) | ((with_reducible apply z1)) | ((with_reducible apply tz)) | ((with_reducible apply lW)) | ((with_reducible apply oZ);exact rfl) | ((with_reducible apply o4);exact rfl) | ((with_reducible apply oY)) | ((with_reducible apply tu)) | ((with_reducible apply tw)) | ((with_reducible apply z6)) | ((with_reducible apply tC)) | ((with_reducible apply tD)) | ((with_reducible apply lX)) | ((with_reducible apply lY)) | ((with_reducible apply lZ);exact rfl) | ((with_reducible apply l6);exact rfl) | ((with_reducible apply o7)) | ((with_reducible apply o8)) | ((with_reducible apply oX)) | (with_reducible refine o5 (by assumption) ?_) | (with_reducible refine o6 (by assumption) ?_) | ((with_reducible apply qo);exact rfl;exact rfl;exact jR) | ((with_reducible apply tM);exact rfl;exact rfl;exact rfl;exact rfl;exact jR) | ((with_reducible apply Ae);exact rfl;exact rfl;exact jR) | ((with_reducible apply tL)) | ((with_reducible apply kW);exact rfl) | ((with_reducible apply tK);exact rfl) | ((with_reducible apply l9);exact rfl;exact rfl;exact rfl) | ((with_reducible apply ma);exact rfl;exact rfl;exact rfl) | ((with_reducible apply km);exact rfl;exact rfl) | ((with_reducible apply Ad)) | ((with_reducible apply n9);exact rfl;exact jR;exact rfl) | ((with_reducible apply mY);exact rfl;exact jR) | ((with_reducible apply bQ);exact rfl;exact jR;exact rfl) | ((with_reducible apply kg);exact rfl;exact rfl) | ((with_reducible apply z8))));exact hq.out):p:=s ⟨h⟩
theorem Qu {p q:Prop} (h:q) (s:Hm q→p:=by intro hq;((first | ((with_reducible apply tP);exact rfl;exact rfl;exact rfl;exact rfl;kernel_rfl) | ((with_reducible apply o9);exact rfl;exact rfl;exact rfl;exact Nat.zero_le _;exact rfl;exact rfl;kernel_rfl) | ((with_reducible apply Ah);exact rfl;exact rfl;kernel_rfl) | ((with_reducible apply pg);exact rfl;exact rfl;kernel_rfl) | ((with_reducible apply wA);exact rfl;exact jR) | ((with_reducible apply xV)) | ((with_reducible apply tJ)) | ((with_reducible apply Aa)) | ((with_reducible apply tE)) | ((with_reducible apply tQ);exact rfl;exact rfl;exact rfl;exact rfl;exact rfl;kernel_rfl) | ((with_reducible apply pa);exact rfl;exact rfl;exact rfl;exact rfl;exact Nat.zero_le _;exact rfl;exact rfl;kernel_rfl) | ((with_reducible apply wB);exact rfl;exact rfl;exact jR) | ((with_reducible apply Ac);(exact(show gw _ _ _=true by kernel_rfl))) | ((with_reducible apply qn);exact rfl;exact jR) | ((with_reducible apply tH);exact rfl;exact jR) | ((with_reducible apply tI);exact rfl;exact rfl;exact rfl;exact jR) | ((with_reducible apply l7);exact rfl;exact rfl;exact rfl) | ((with_reducible apply l8);exact rfl;exact rfl;exact rfl) | ((with_reducible apply tG);exact rfl;exact rfl;exact jR;exact rfl) | ((with_reducible apply qm);exact rfl;exact rfl;exact jR) | ((with_reducible apply bc);exact rfl;exact rfl;exact jR;exact rfl) | ((with_reducible apply DZ)) | ((with_reducible apply z1)) | ((with_reducible apply tz)) | ((with_reducible apply lW)) | ((with_reducible apply oZ);exact rfl) | ((with_reducible apply o4);exact rfl) | ((with_reducible apply oY)) | ((with_reducible apply tu)) | ((with_reducible apply tw)) | ((with_reducible apply z6)) | ((with_reducible apply tC)) | ((with_reducible apply tD)) | ((with_reducible apply lX)) | ((with_reducible apply lY)) | ((with_reducible apply lZ);exact rfl) | ((with_reducible apply l6);exact rfl) | ((with_reducible apply o7)) | ((with_reducible apply o8)) | ((with_reducible apply oX)) | (with_reducible refine o5 (by assumption) ?_) | (with_reducible refine o6 (by assumption) ?_) | ((with_reducible apply qo);exact rfl;exact rfl;exact jR) | ((with_reducible apply tM);exact rfl;exact rfl;exact rfl;exact rfl;exact jR) | ((with_reducible apply Ae);exact rfl;exact rfl;exact jR) | ((with_reducible apply tL)) | ((with_reducible apply kW);exact rfl) | ((with_reducible apply tK);exact rfl) | ((with_reducible apply l9);exact rfl;exact rfl;exact rfl) | ((with_reducible apply ma);exact rfl;exact rfl;exact rfl) | ((with_reducible apply km);exact rfl;exact rfl) | ((with_reducible apply Ad)) | ((with_reducible apply n9);exact rfl;exact jR;exact rfl) | ((with_reducible apply mY);exact rfl;exact jR) | ((with_reducible apply bQ);exact rfl;exact jR;exact rfl) | ((with_reducible apply kg);exact rfl;exact rfl) | ((with_reducible apply z8))));exact hq.out):p:=s ⟨h⟩
theorem Lp {p q:Prop} (h:q) (s:Hm q→p:=by intro hq;(repeat(first | ((with_reducible apply tP);exact rfl;exact rfl;exact rfl;exact rfl;kernel_rfl) | ((with_reducible apply o9);exact rfl;exact rfl;exact rfl;exact Nat.zero_le _;exact rfl;exact rfl;kernel_rfl) | ((with_reducible apply Ah);exact rfl;exact rfl;kernel_rfl) | ((with_reducible apply pg);exact rfl;exact rfl;kernel_rfl) | ((with_reducible apply wA);exact rfl;exact D0) | ((with_reducible apply xV)) | ((with_reducible apply tJ)) | ((with_reducible apply Aa)) | ((with_reducible apply tE)) | ((with_reducible apply tQ);exact rfl;exact rfl;exact rfl;exact rfl;exact rfl;kernel_rfl) | ((with_reducible apply pa);exact rfl;exact rfl;exact rfl;exact rfl;exact Nat.zero_le _;exact rfl;exact rfl;kernel_rfl) | ((with_reducible apply wB);exact rfl;exact rfl;exact D0) | ((with_reducible apply Ac);(exact(show gw _ _ _=true by kernel_rfl))) | ((with_reducible apply qn);exact rfl;exact D0) | ((with_reducible apply tH);exact rfl;exact D0) | ((with_reducible apply tI);exact rfl;exact rfl;exact rfl;exact D0) | ((with_reducible apply l7);exact rfl;exact rfl;exact rfl) | ((with_reducible apply l8);exact rfl;exact rfl;exact rfl) | ((with_reducible apply tG);exact rfl;exact rfl;exact D0;exact rfl) | ((with_reducible apply qm);exact rfl;exact rfl;exact D0) | ((with_reducible apply bc);exact rfl;exact rfl;exact D0;exact rfl) | ((with_reducible apply DZ)) | ((with_reducible apply z1)) | ((with_reducible apply tz)) | ((with_reducible apply lW)) | ((with_reducible apply oZ);exact rfl) | ((with_reducible apply o4);exact rfl) | ((with_reducible apply oY)) | ((with_reducible apply tu)) | ((with_reducible apply tw)) | ((with_reducible apply z6)) | ((with_reducible apply tC)) | ((with_reducible apply tD)) | ((with_reducible apply lX)) | ((with_reducible apply lY)) | ((with_reducible apply lZ);exact rfl) | ((with_reducible apply l6);exact rfl) | ((with_reducible apply o7)) | ((with_reducible apply o8)) | ((with_reducible apply oX)) | (with_reducible refine o5 (by assumption) ?_) | (with_reducible refine o6 (by assumption) ?_) | ((with_reducible apply qo);exact rfl;exact rfl;exact D0) | ((with_reducible apply tM);exact rfl;exact rfl;exact rfl;exact rfl;exact D0) | ((with_reducible apply Ae);exact rfl;exact rfl;exact D0) | ((with_reducible apply tL)) | ((with_reducible apply kW);exact rfl) | ((with_reducible apply tK);exact rfl) | ((with_reducible apply l9);exact rfl;exact rfl;exact rfl) | ((with_reducible apply ma);exact rfl;exact rfl;exact rfl) | ((with_reducible apply km);exact rfl;exact rfl) | ((with_reducible apply Ad)) | ((with_reducible apply n9);exact rfl;exact D0;exact rfl) | ((with_reducible apply mY);exact rfl;exact D0) | ((with_reducible apply bQ);exact rfl;exact D0;exact rfl) | ((with_reducible apply kg);exact rfl;exact rfl) | ((with_reducible apply z8))));exact hq.out):p:=s ⟨h⟩
theorem eV {p q:Prop} (h:q) (s:Hm q→p:=by intro hq;(repeat(first | ((with_reducible apply tP);exact rfl;exact rfl;exact rfl;exact rfl;kernel_rfl) | ((with_reducible apply o9);exact rfl;exact rfl;exact rfl;exact Nat.zero_le _;exact rfl;exact rfl;kernel_rfl) | ((with_reducible apply Ah);exact rfl;exact rfl;kernel_rfl) | ((with_reducible apply pg);exact rfl;exact rfl;kernel_rfl) | ((with_reducible apply wA);exact rfl;exact D8) | ((with_reducible apply xV)) | ((with_reducible apply tJ)) | ((with_reducible apply Aa)) | ((with_reducible apply tE)) | ((with_reducible apply tQ);exact rfl;exact rfl;exact rfl;exact rfl;exact rfl;kernel_rfl) | ((with_reducible apply pa);exact rfl;exact rfl;exact rfl;exact rfl;exact Nat.zero_le _;exact rfl;exact rfl;kernel_rfl) | ((with_reducible apply wB);exact rfl;exact rfl;exact D8) | ((with_reducible apply Ac);(exact(show gw _ _ _=true by kernel_rfl))) | ((with_reducible apply qn);exact rfl;exact D8) | ((with_reducible apply tH);exact rfl;exact D8) | ((with_reducible apply tI);exact rfl;exact rfl;exact rfl;exact D8) | ((with_reducible apply l7);exact rfl;exact rfl;exact rfl) | ((with_reducible apply l8);exact rfl;exact rfl;exact rfl) | ((with_reducible apply tG);exact rfl;exact rfl;exact D8;exact rfl) | ((with_reducible apply qm);exact rfl;exact rfl;exact D8) | ((with_reducible apply bc);exact rfl;exact rfl;exact D8;exact rfl) | ((with_reducible apply DZ)) | ((with_reducible apply z1)) | ((with_reducible apply tz)) | ((with_reducible apply lW)) | ((with_reducible apply oZ);exact rfl) | ((with_reducible apply o4);exact rfl) | ((with_reducible apply oY)) | ((with_reducible apply tu)) | ((with_reducible apply tw)) | ((with_reducible apply z6)) | ((with_reducible apply tC)) | ((with_reducible apply tD)) | ((with_reducible apply lX)) | ((with_reducible apply lY)) | ((with_reducible apply lZ);exact rfl) | ((with_reducible apply l6);exact rfl) | ((with_reducible apply o7)) | ((with_reducible apply o8)) | ((with_reducible apply oX)) | (with_reducible refine o5 (by assumption) ?_) | (with_reducible refine o6 (by assumption) ?_) | ((with_reducible apply qo);exact rfl;exact rfl;exact D8) | ((with_reducible apply tM);exact rfl;exact rfl;exact rfl;exact rfl;exact D8) | ((with_reducible apply Ae);exact rfl;exact rfl;exact D8) | ((with_reducible apply tL)) | ((with_reducible apply kW);exact rfl) | ((with_reducible apply tK);exact rfl) | ((with_reducible apply l9);exact rfl;exact rfl;exact rfl) | ((with_reducible apply ma);exact rfl;exact rfl;exact rfl) | ((with_reducible apply km);exact rfl;exact rfl) | ((with_reducible apply Ad)) | ((with_reducible apply n9);exact rfl;exact D8;exact rfl) | ((with_reducible apply mY);exact rfl;exact D8) | ((with_reducible apply bQ);exact rfl;exact D8;exact rfl) | ((with_reducible apply kg);exact rfl;exact rfl) | ((with_reducible apply z8))));exact hq.out):p:=s ⟨h⟩
theorem vm {n0:Nat} {E':VE} {M':VM} {n':Nat} {E:VE} {M:VM} (σ bs:List (Nat×Nat)) (h1:mE (cA n0 σ) (kP M bs) E' E:=by exact mm) (h2:mM (cA n0 σ) (kP M bs) M' (VM.bump M bs):=by exact mm) (h3:rV n0 n' σ=true:=by exact rfl) (h4:DJ M bs:=by exact mm) (h5:M'.all (fun x=>Nat.blt x.1 n')=true:=by exact rfl):iL n0 E' M' n' E M:=iL.of σ bs h1 h2 h3 h4 h5
theorem dZ {R:MV×Dl→Prop} {p q:Prop} {x:MV×Dl} (_hR:R x) (h:q) (s:Hm q→p:=by intro hq;first | ((with_reducible apply mg);exact rfl;exact rfl;exact rfl;exact rfl;kernel_rfl;exact hR) | ((with_reducible apply mZ);exact rfl;exact rfl;exact rfl;exact Nat.zero_le _;exact rfl;exact rfl;kernel_rfl;exact hR) | ((with_reducible apply tO);exact rfl;exact rfl;kernel_rfl;exact hR) | ((with_reducible apply mf);exact rfl;exact rfl;kernel_rfl;exact hR) | (repeat(first | exact hR | ((try conv=>whnf);first | exact hR | (with_reducible refine And.intro (Nat.zero_le _) ?_) | (with_reducible refine And.intro rfl ?_) | (with_reducible refine⟨_,cB (by omega),?_⟩) | (with_reducible refine⟨fun _=>?_,fun h=>Bool.noConfusion h⟩) | (with_reducible refine⟨fun h=>Bool.noConfusion h,fun _=>?_⟩) | (with_reducible refine⟨_,sv (eM _ (by omega) (by omega)),?_⟩) | (with_reducible refine⟨_,sv (bu _ (by omega) (by omega)),?_⟩) | (with_reducible refine⟨_,sv (gm _ (by omega) (by omega)),?_⟩) | (refine⟨_,rfl,?_⟩) | (refine And.intro (by omega) ?_))));exact hq.out):p:=s ⟨h⟩
theorem pl:(∀(p:Prop) [Decidable p],(decide p=true)=p)∧(∀(p:Prop) [Decidable p],(decide p=false)= ¬p)∧(∀{α:Type} [BEq α] [LawfulBEq α] {a b:α},((a == b)=true)=(a=b))∧(∀{α:Type} [BEq α] [LawfulBEq α] {a b:α},((a !=b)=true)=(a≠b))∧(∀{α:Type} (a b:α),(a≠b)= ¬(a=b))∧(!true)=false∧(!false)=true∧
  (∀{α:Type} [BEq α] [LawfulBEq α] {a b:α},((a == b)=false)=(a≠b))∧(∀{α:Type} [BEq α] [LawfulBEq α] {a b:α},((a !=b)=false)=(a=b))∧(∀b:Bool,(¬b=true)=(b=false))∧(∀b:Bool,(¬b=false)=(b=true))∧(∀{a b:Bool},((!a)=b)=(a= !b)):=
 ⟨fun p _=>decide_eq_true_eq,fun _ _=>propext decide_eq_false_iff_not,propext beq_iff_eq,propext bne_iff_ne,ne_eq,rfl,rfl,propext beq_eq_false_iff_ne,propext bne_eq_false_iff_eq,Bool.not_eq_true,Bool.not_eq_false,propext Bool.not_eq_eq_eq_not⟩
theorem en {n0 n1:Nat} {res:MV} {M1 M:VM} {vs:List MV} (rv:List MV) (h1:kV rv=res:=by exact rfl) (h2:cU.relVs (cA n0 []) (kP M []) rv vs:=by exact lm) (h3:mM (cA n0 []) (kP M []) M1 (VM.bump M []):=by exact mm) (h4:rV n0 n1 [] =true:=by exact rfl) (h5:M1.all (fun x=>Nat.blt x.1 n1)=true:=by exact rfl): ∃(rv:List MV) (σ bs:List (Nat×Nat)),kV rv=res∧eh n0 rv M1 n1 vs M σ bs:=⟨rv,[],[],h1,h4,trivial,h5,h2,h3⟩
theorem eb {n0 n1:Nat} {res:MV} {M1 M:VM} {vs:List MV} (rv:List MV) (σ bs:List (Nat×Nat)) (h1:kV rv=res:=by exact rfl) (h2:cU.relVs (cA n0 σ) (kP M bs) rv vs:=by exact lm) (h3:mM (cA n0 σ) (kP M bs) M1 (VM.bump M bs):=by exact mm) (h4:rV n0 n1 σ=true:=by exact rfl) (h5:M1.all (fun x=>Nat.blt x.1 n1)=true:=by exact rfl) (h6:DJ M bs:=by exact mm): ∃(rv:List MV) (σ bs:List (Nat×Nat)),kV rv=res∧eh n0 rv M1 n1 vs M σ bs:=⟨rv,σ,bs,h1,h4,h6,h5,h2,h3⟩
section
variable {Pg:Program} {T:bh} {N:Nat} {ents:List FuncId} {G:GS} {n0:Nat} {ops:Array Oper} {d:Tmp} {ty:TypeId} {pos:String} {after:Array Edge} {g:Option (Nat×Bool)} {rest:List Oper} {K:VK} {J:List Nat→VE→VM→Prop} {E:VE} {M:VM} {n:Nat} {f:Operand} {args:Array Operand} {ats:Array TypeId} {f0:FuncId} {vs args':List MV} {res:MV}
theorem yr (hc:aL Pg G f0 args' [] 0 res [] 0) (h:aj Pg T N ents G ops rest K ((d,res) :: E) M n) (h1: ∀R:FuncId×List MV→Prop,R (f0,vs)→(dG E f args.toList).runP R:=by exact fun _ h=>h) (hd:Nat.blt d N=true:=by exact rfl) (h2:ents.contains f0=true:=by exact rfl) (hf:dR res=true:=by exact rfl) (hm:cU.relVs (cA 0 []) (kP M []) args' vs:=by exact lm):aC Pg T N ents G ops ⟨some d, .call ⟨.value f,args,ats⟩,ty,pos,after,g⟩ rest K E M n:=sj hd h1 h2 hc hf hm h
theorem kX (hc:aL Pg G f0 args' [] 0 res [] 0) {q:Prop} (h:q) (h1: ∀R:FuncId×List MV→Prop,R (f0,vs)→(dG E f args.toList).runP R:=by exact fun _ h=>h) (hd:Nat.blt d N=true:=by exact rfl) (h2:ents.contains f0=true:=by exact rfl) (hf:dR res=true:=by exact rfl) (hm:cU.relVs (cA 0 []) (kP M []) args' vs:=by exact lm) (s:Hm q→aj Pg T N ents G ops rest K ((d,res) :: E) M n:=by exact fun b=>ad b.out):aC Pg T N ents G ops ⟨some d, .call ⟨.value f,args,ats⟩,ty,pos,after,g⟩ rest K E M n:=yr hc (s ⟨h⟩) h1 hd h2 hf hm
theorem yv (hc:aD Pg G f0 args' res) (h:aj Pg T N ents G ops rest K ((d,res) :: E) M n) (h1: ∀R:FuncId×List MV→Prop,R (f0,vs)→(dG E f args.toList).runP R:=by exact fun _ h=>h) (hd:Nat.blt d N=true:=by exact rfl) (h2:ents.contains f0=true:=by exact rfl) (hf:dR res=true:=by exact rfl) (hm:cU.relVs (cA 0 []) (kP M []) args' vs:=by exact lm):aC Pg T N ents G ops ⟨some d, .call ⟨.value f,args,ats⟩,ty,pos,after,g⟩ rest K E M n:=sj hd h1 h2 (aa hc) hf hm h
theorem bL (hc:aD Pg G f0 args' res) {q:Prop} (h:q) (h1: ∀R:FuncId×List MV→Prop,R (f0,vs)→(dG E f args.toList).runP R:=by exact fun _ h=>h) (hd:Nat.blt d N=true:=by exact rfl) (h2:ents.contains f0=true:=by exact rfl) (hf:dR res=true:=by exact rfl) (hm:cU.relVs (cA 0 []) (kP M []) args' vs:=by exact lm) (s:Hm q→aj Pg T N ents G ops rest K ((d,res) :: E) M n:=by exact fun b=>ad b.out):aC Pg T N ents G ops ⟨some d, .call ⟨.value f,args,ats⟩,ty,pos,after,g⟩ rest K E M n:=yv hc (s ⟨h⟩) h1 hd h2 hf hm
theorem QC (hc:aL Pg G f0 args' [] 0 res [] 0) (h:J [] ((d,res) :: E) M) (h1: ∀R:FuncId×List MV→Prop,R (f0,vs)→(dG E f args.toList).runP R:=by exact fun _ h=>h) (hd:Nat.blt d N=true:=by exact rfl) (h2:ents.contains f0=true:=by exact rfl) (hf:dR res=true:=by exact rfl) (hm:cU.relVs (cA 0 []) (kP M []) args' vs:=by exact lm):aM Pg T N ents G true ⟨some d, .call ⟨.value f,args,ats⟩,ty,pos,after,g⟩ J E M n:=kn hd h1 h2 [] hc hf [] trivial hm rfl h
theorem jk (hc:aL Pg G f0 args' [] 0 res [] 0) {q:Prop} (h:q) (h1: ∀R:FuncId×List MV→Prop,R (f0,vs)→(dG E f args.toList).runP R:=by exact fun _ h=>h) (hd:Nat.blt d N=true:=by exact rfl) (h2:ents.contains f0=true:=by exact rfl) (hf:dR res=true:=by exact rfl) (hm:cU.relVs (cA 0 []) (kP M []) args' vs:=by exact lm) (s:Hm q→J [] ((d,res) :: E) M:=by exact fun b=>ad b.out):aM Pg T N ents G true ⟨some d, .call ⟨.value f,args,ats⟩,ty,pos,after,g⟩ J E M n:=QC hc (s ⟨h⟩) h1 hd h2 hf hm
theorem OS (hc:aD Pg G f0 args' res) (h:J [] ((d,res) :: E) M) (h1: ∀R:FuncId×List MV→Prop,R (f0,vs)→(dG E f args.toList).runP R:=by exact fun _ h=>h) (hd:Nat.blt d N=true:=by exact rfl) (h2:ents.contains f0=true:=by exact rfl) (hf:dR res=true:=by exact rfl) (hm:cU.relVs (cA 0 []) (kP M []) args' vs:=by exact lm):aM Pg T N ents G true ⟨some d, .call ⟨.value f,args,ats⟩,ty,pos,after,g⟩ J E M n:=kn hd h1 h2 [] (aa hc) hf [] trivial hm rfl h
theorem du (hc:aD Pg G f0 args' res) {q:Prop} (h:q) (h1: ∀R:FuncId×List MV→Prop,R (f0,vs)→(dG E f args.toList).runP R:=by exact fun _ h=>h) (hd:Nat.blt d N=true:=by exact rfl) (h2:ents.contains f0=true:=by exact rfl) (hf:dR res=true:=by exact rfl) (hm:cU.relVs (cA 0 []) (kP M []) args' vs:=by exact lm) (s:Hm q→J [] ((d,res) :: E) M:=by exact fun b=>ad b.out):aM Pg T N ents G true ⟨some d, .call ⟨.value f,args,ats⟩,ty,pos,after,g⟩ J E M n:=OS hc (s ⟨h⟩) h1 hd h2 hf hm
theorem yc {M0:VM} {M1:VM} {n1:Nat} (hc:aL Pg G f0 args' M0 n0 res M1 n1) (σ:List (Nat×Nat)) (h:aj Pg T N ents G ops rest K ((d,cJ (rr n σ) res) :: E) (jL (rr n σ) M1 ++ iM M σ) (n + n1)) (h1: ∀R:FuncId×List MV→Prop,R (f0,vs)→(dG E f args.toList).runP R:=by exact fun _ h=>h) (hd:Nat.blt d N=true:=by exact rfl) (h2:ents.contains f0=true:=by exact rfl) (h5:rV 0 n0 σ=true:=by exact rfl) (h6:M0.all (fun x=>Nat.blt x.1 n0)=true:=by exact rfl) (hm:cU.relVs (cA 0 σ) (kP M []) args' vs:=by exact lm) (h7:mM (cA 0 σ) (kP M []) M0 (VM.bump M []):=by exact mm) (h3:iy M σ=true:=by exact rfl) (h4:M1.all (fun x=>Nat.blt x.1 n1)=true:=by exact rfl):aC Pg T N ents G ops ⟨some d, .call ⟨.value f,args,ats⟩,ty,pos,after,g⟩ rest K E M n:=bR hd h1 h2 hc σ [] ⟨h5,trivial,h6,hm,h7⟩ h3 h4 h
end
end
section
def bZ (n:Nat):List UInt8:=if _h:n < 128 then [UInt8.ofNat n] else UInt8.ofNat (n % 128 + 128) :: bZ (n / 128)
termination_by n
theorem na {n:Nat} (h:n < 128):bZ n= [UInt8.ofNat n] :=by rw [bZ,dif_pos h]
theorem sk {n:Nat} (h: ¬ n < 128):bZ n=UInt8.ofNat (n % 128 + 128) :: bZ (n / 128):=by rw [bZ,dif_neg h]
def readS:List UInt8→Nat→Nat→Nat×Nat×Nat
 | [],_,_=>(0,0,5)
 | x :: r,i,n=>
  if i=9∧1 < x.toNat then(0,0,6) else if 0 < i∧x.toNat=0 then(0,0,4) else
  if x.toNat < 128 then(n + x.toNat * 128 ^ i,i + 1,0) else readS r (i + 1) (n + (x.toNat - 128) * 128 ^ i)
theorem rE {n:Nat} (h:n < 256):(UInt8.ofNat n).toNat=n:=by rw [UInt8.toNat_ofNat'];omega
theorem Al: ∀(k n:Nat),n < 128 ^ (k + 1)→1≤(bZ n).length∧(bZ n).length≤k + 1
 | 0,n,h=>by rw [na om];simp
 | k + 1,n,h=>by
  by_cases hn:n < 128
  ·rw [na hn];simp
  ·rw [sk hn]
   have:=Al k (n / 128) (by rw [d₆] at h;omega)
   simp only [b₀]
   omega
theorem dv {n:Nat} (h:n < 18446744073709551616):1≤(bZ n).length∧(bZ n).length≤10:=Al 9 n om
theorem Am: ∀(m n:Nat),n≤m→∀(i acc:Nat) (r:List UInt8),i≤9→n * 128 ^ i < 18446744073709551616→(0 < i→0 < n)→readS (bZ n ++ r) i acc=(acc + n * 128 ^ i,i + (bZ n).length,0)
 | m,n,hm,i,acc,r,hi,hb,h0=>by
  have h9:i=9→n≤1:=fun h=>by subst h;omega
  by_cases hn:n < 128
  ·rw [na hn]
   simp only [List.singleton_append,readS,rE (show n < 256 by omega),List.length_singleton]
   rw [if_neg om,if_neg om,if_pos hn]
  ·rw [sk hn]
   have h9':i≠9:=fun h=>by have:=h9 h;omega
   simp only [List.cons_append,readS,rE (show n % 128 + 128 < 256 by omega),b₀]
   rw [if_neg om,if_neg om,if_neg om]
   have e:n=128 * (n / 128) + n % 128:=(Nat.div_add_mod n 128).symm
   have e2:n * 128 ^ i=(n / 128) * 128 ^ (i + 1) + n % 128 * 128 ^ i:=by
    rw [d₆]
    conv=>lhs;rw [e,Nat.add_mul]
    rw [Nat.mul_comm 128 (n / 128),Nat.mul_assoc,Nat.mul_comm 128 (128 ^ i)]
   match m,hm with
   | 0,hm=>exact absurd hm om
   | m + 1,hm=>
    rw [Am m (n / 128) om (i + 1) _ r om om om]
    rw [show n % 128 + 128 - 128=n % 128 by omega,e2]
    refine d₀ dm (d₀ dm rfl)
theorem qs {n:Nat} (h:n < 18446744073709551616) (r:List UInt8):readS (bZ n ++ r) 0 0=(n,(bZ n).length,0):=by
 have:=Am n n (c₅ n) 0 0 r om om om;rw [this];refine d₀ dm (d₀ dm rfl)
theorem kY: ∀(b:List UInt8) (i n:Nat),i≤9→n < 128 ^ i→(readS b i n).2.2=0→i < (readS b i n).2.1∧(readS b i n).2.1≤i + b.length∧(readS b i n).1 < 18446744073709551616
 | [],i,n,_,_,h=>by simp [readS] at h
 | x :: r,i,n,hi,hn,h=>by
  have hx:=x.toNat_lt
  rw [readS] at h ⊢
  have hp:i≤8→128 ^ i≤72057594037927936:=fun h=>c₂ (Nat.pow_le_pow_right om h) (by decide)
  split at h
  ·cases h
  ·rename_i h1
   rw [if_neg h1]
   split at h
   ·cases h
   ·rename_i h2
    rw [if_neg h2]
    split at h
    ·rename_i h3
     rw [if_pos h3]
     refine⟨dm,by dsimp only;simp only [b₀];omega,?_⟩
     dsimp only
     rcases c₇ i 9 with h9 | h9
     ·have:=hp om
      have h5:x.toNat * 128 ^ i≤127 * 128 ^ i:=d₃ _ om
      omega
     ·have:i=9:=om
      subst this
      omega
    ·rename_i h3
     rw [if_neg h3]
     have h9:i≠9:=fun he=>h1 ⟨he,om⟩
     have:=kY r (i + 1) (n + (x.toNat - 128) * 128 ^ i) om (by
      rw [d₆]
      have:(x.toNat - 128) * 128 ^ i≤127 * 128 ^ i:=d₃ _ om
      omega) h
     simp only [b₀]
     omega
structure fR where
 num:Nat
 kind:Nat
 val:Nat
 bytes:List UInt8
 deriving DecidableEq
def fld0:fR:=⟨0,0,0,[]⟩
def bT (f:fR):List UInt8:=bZ (f.num * 8 + f.kind) ++ (if f.kind=0 then bZ f.val else bZ f.bytes.length ++ f.bytes)
def bg (l:List fR):List UInt8:=(l.map bT).flatten
def jM (f:fR):Prop:=1≤f.num∧f.num≤536870911∧(f.kind=0∧f.bytes= [] ∧f.val < 18446744073709551616∨f.kind=2∧f.val=0∧f.bytes.length < 18446744073709551616)
def eW (b:List UInt8):fR×Nat×Nat:=
 match readS b 0 0 with
 | (tag,n,e)=>if e≠0 then(fld0,0,e) else
  if tag / 8 < 1∨536870911 < tag / 8∨(tag % 8≠0∧tag % 8≠2) then(fld0,0,4) else
  match readS (b.drop n) 0 0 with
  | (v,k,e)=>if e≠0 then(fld0,0,e) else
   if tag % 8=0 then(⟨tag / 8,0,v,[]⟩,n + k,0) else
   if b.length - (n + k) < v then(fld0,0,5) else(⟨tag / 8,2,0,(b.drop (n + k)).take v⟩,n + k + v,0)
theorem FT {f:fR} (h:jM f) (r:List UInt8):eW (bT f ++ r)=(f,(bT f).length,0):=by
 obtain⟨num,kind,val,bytes⟩:=f;obtain⟨h1,h2,h3⟩:=h;dsimp only at h1 h2 h3;unfold eW bT;dsimp only;rw [c₄,qs om];dsimp only;rw [if_neg sm,if_neg om,d₂];rcases h3 with ⟨rfl,rfl,hv⟩ | ⟨rfl,rfl,hv⟩
 ·rw [if_pos rfl,qs hv];dsimp only;rw [if_neg sm,if_pos om,b₄,show (num * 8 + 0) / 8=num by omega]
 ·rw [if_neg (by omega: ¬ (2:Nat)=0),c₄,qs hv];dsimp only;have e:(bZ (num * 8 + 2) ++ (bZ bytes.length ++ (bytes ++ r))).drop ((bZ (num * 8 + 2)).length + (bZ bytes.length).length)=bytes ++ r:=by
   rw [← c₄,← b₄,d₂]
  rw [if_neg sm,if_neg om,if_neg (by simp only [b₄];omega),e,List.take_left,show (num * 8 + 2) / 8=num by omega];refine d₀ rfl (d₀ ?_ rfl);dsimp only;simp only [b₄];omega
theorem Cv {b:List UInt8} (h:(eW b).2.2=0):1≤(eW b).2.1∧(eW b).2.1≤b.length∧jM (eW b).1∧(eW b).1.bytes.length≤b.length:=by
 have h1:=kY b 0 0 om om;unfold eW at h ⊢;generalize readS b 0 0=t at *;obtain⟨tag,n,e⟩:=t;dsimp only at *;split at h
 ·contradiction
 rename_i he;rw [if_neg he];have he:e=0:=om;split at h
 ·cases h
 rename_i ht;rw [if_neg ht];have h2:=kY (b.drop n) 0 0 om om;generalize readS (b.drop n) 0 0=u at *;obtain⟨v,k,e2⟩:=u;dsimp only at *;split at h
 ·contradiction
 rename_i he2;rw [if_neg he2];have hh:=h1 he;have hh2:=h2 om;rw [e₀] at hh2;split at h
 ·rename_i hk;rw [if_pos hk];exact⟨dm,dm,⟨dm,dm, .inl ⟨rfl,rfl,dm⟩⟩,sm⟩
 ·rename_i hk;rw [if_neg hk];split at h
  ·cases h
  ·rename_i hv;rw [if_neg hv];have hl:((b.drop (n + k)).take v).length=v:=by rw [List.length_take,e₀];omega
   exact⟨dm,dm,⟨dm,dm, .inr ⟨rfl,rfl,dm⟩⟩,dm⟩
def fh:Nat→List UInt8→Nat→List fR→List fR×Nat×Nat
 | _,[],_,acc=>(acc,0,0)
 | 0,_ :: _,at_,_=>([],at_,3)
 | k + 1,x :: b,at_,acc=>match eW (x :: b) with
  | (f,n,e)=>if e≠0 then([],at_,e) else fh k ((x :: b).drop n) (at_ + n) (acc ++ [f])
def aH (b:List UInt8):List fR×Nat×Nat:=fh 1024 b 0 []
theorem oc: ∀(l:List fR) (k at_:Nat) (acc:List fR),(∀f∈l,jM f)→l.length≤k→fh k (bg l) at_ acc=(acc ++ l,0,0)
 | [],k,at_,acc,_,_=>by
  have:bg [] = [] :=rfl
  rw [this,List.append_nil]
  cases k <;> rfl
 | f :: l,k + 1,at_,acc,h,hk=>by
  have h1:bg (f :: l)=bT f ++ bg l:=by simp [bg]
  have h0:1≤(bT f).length:=by
   unfold bT
   have hf:=h f sm
   have:=(dv (n:=f.num * 8 + f.kind) (by unfold jM at hf;omega)).1
   rw [b₄];omega
  have hone:=FT (h f sm) (bg l)
  rw [h1]
  generalize hx:bT f ++ bg l=x at *
  cases x with
  | nil=>have:=congrArg List.length hx;simp at this;simp [this.1] at h0
  | cons y b=>
   rw [fh,hone]
   dsimp only
   rw [if_neg sm,← hx,d₂,oc l k _ _ (fun g hg=>h g (by simp [hg])) (by simpa using hk),c₄]
   rfl
end
end Go.Proofs.YthdhlcicpcnbhaaGreatDoor
