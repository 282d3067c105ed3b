/- Parts of a proof, one behind the other: M32, M24, M25, M26, M27, M28, M31, M33, M34, M35, KL, Seat, S0, S2, U32, K, A1. -/
import Derived.Test.YthdhlcicpcnbhaaGreatDoorW02
open Bool renaming and_eq_true → a₀,noConfusion → a₃,not_eq_true' → b₁,or_eq_true → b₃
open Nat renaming blt → a₄,beq → a₆,eq_of_beq_eq_true → a₉,mod_eq_of_lt → b₉,le_trans → c₂,le_refl → c₅,blt_eq → c₆,lt_or_ge → c₇,ble → c₈,le_of_ble_eq_true → d₁,mul_le_mul_right → d₃,sub_zero → d₅,pow_succ → d₆
open List renaming toArray → a₅,all_eq_true → a₇,mem_append → a₈,length_cons → b₀,mem_cons → b₂,length_append → b₄,mem_cons_self → b₅,mem_map → b₆,zipWith → b₇,pairwise_append → b₈,map_cons → c₀,getElem?_eq_some_iff → c₁,pairwise_cons → c₃,append_assoc → c₄,any_eq_true → c₉,drop_left → d₂,append → d₇,length_drop → e₀,mem_filter → e₁,mem_range → e₅
open Prod renaming ext → d₀
open Int renaming toNat_of_nonneg → d₄,natCast_emod → d₉,natCast_pow → e₄
open Option renaming getD_some → d₈,map_some → e₃
set_option maxRecDepth 20000
set_option maxHeartbeats 16000000
set_option linter.unusedVariables false
set_option linter.unusedSimpArgs false
namespace Go.Proofs.YthdhlcicpcnbhaaGreatDoor
open Go.RowKit
section
mutual
def numsV:MV→List Nat
 | .ptr c _ _ _ _=> [c]
 | .ms c _ _ _=> [c]
 | .mp c=> [c]
 | .st l=>numsVs l
 | .fn _ l=>numsVs l
 | .tup l=>numsVs l
 | .ifc _ v=>numsV v
 | _=> []
def numsVs:List MV→List Nat
 | [] => []
 | m :: l=>numsV m ++ numsVs l
end
def numsO (e:Nat→Option MV):List Operand→List Nat
 | [] => []
 | x :: l=>(match iD e x with | some v=>numsV v | none=> []) ++ numsO e l
section
variable {P:Program} {T:bf} {e:Nat→Option MV} {m m':FM} {cnt:Nat} {A:Type}
theorem iw {x:Operand} {k k':MV→aX A} (h: ∀v,iD e x=some v→k' v=k v):rd e x k'=rd e x k:=by
 unfold rd;cases hx:iD e x with
 | none=>rfl
 | some v=>exact h v hx
theorem xB: ∀{l:List Operand} {k k':List MV→aX A},(∀vs,l.map (iD e)=vs.map some→k' vs=k vs)→ln e l k'=ln e l k
 | [],_,_,h=>h [] rfl
 | x :: l,k,k',h=>by
  show rd e x _=rd e x _
  exact iw fun v hv=>xB fun vs hvs=>h (v :: vs) (by simp [hv,hvs])
theorem hX: ∀{l:List Operand} {vs:List MV},l.map (iD e)=vs.map some→numsO e l=numsVs vs
 | [],[],_=>rfl
 | x :: l,v :: vs,h=>by
  simp only [c₀,List.cons.injEq] at h
  simp only [numsO,numsVs,h.1,hX h.2]
 | [],_ :: _,h=>by simp at h
 | _ :: _,[],h=>by simp at h
theorem nM: ∀(l r:List MV),numsVs (l ++ r)=numsVs l ++ numsVs r
 | [],r=>rfl
 | m :: l,r=>by simp [numsVs,nM l r]
abbrev s9 (m' m:FM) (S:List Nat):Prop:= ∀c∈S,m' c=m c
mutual
theorem Dw: ∀{p:MV},s9 m' m (numsV p)→cM m' p=cM m p
 | .ptr c es k fo path,h=>by simp only [cM,h c (by simp [numsV])]
 | .ms c es off n,h=>by simp only [cM,h c (by simp [numsV])]
 | .st l,h=>by simp only [cM];rw [oH (l:=l) h]
 | .fn f l,h=>by simp only [cM];rw [oH (l:=l) h]
 | .ifc t v,h=>by simp only [cM];rw [Dw (p:=v) h]
 | .tup _,_=>rfl
 | .undef,_=>rfl
 | .mp _,_=>rfl
 | .mpv ..,_=>rfl
 | .int ..,_=>rfl
 | .bool ..,_=>rfl
 | .str ..,_=>rfl
 | .nilp,_=>rfl
 | .gp ..,_=>rfl
 | .ep ..,_=>rfl
 | .sl ..,_=>rfl
 | .nils,_=>rfl
 | .nilf,_=>rfl
 | .nili,_=>rfl
 | .arr ..,_=>rfl
theorem oH: ∀{l:List MV},s9 m' m (numsVs l)→fh m' l=fh m l
 | [],_=>rfl
 | q :: l,h=>by
  simp only [fh]
  rw [Dw (p:=q) fun c hc=>h c (by simp [numsVs,hc]),oH (l:=l) fun c hc=>h c (by simp [numsVs,hc])]
end
theorem Fc {t:TypeId} {p:MV} (h:s9 m' m (numsV p)):fS T m' t p=fS T m t p:=by
 unfold fS;cases p with
 | ptr c es k fo path=>simp only [h c (by simp [numsV])]
 | _=>rfl
theorem BQ {t:TypeId} {p v:MV} (h:s9 m' m (numsV p)):ff T m' t p v=ff T m t p v:=by
 unfold ff;cases p with
 | ptr c es k fo path=>simp only [h c (by simp [numsV])]
 | _=>rfl
theorem zw {t:TypeId} {p:MV} {lo hi:Option MV} (h:s9 m' m (numsV p)):ez T m' t p lo hi=ez T m t p lo hi:=by
 unfold ez;split
 ·have hh:=h _ (b₅ ..);simp only [hh]
 ·rfl
theorem Fe {s d:TypeId} {p:MV} (h:s9 m' m (numsV p)):lz T m' s d p=lz T m s d p:=by
 unfold lz;split
 ·rfl
 ·rfl
 ·rfl
 ·have hh:=h _ (b₅ ..);simp only [hh]
 ·rfl
 ·rfl
theorem Hp {es:Nat} {y:MV} {k:Bool→Nat→List MV→aX (MV×Dl)} (h:s9 m' m (numsV y)):oh m' es y k=oh m es y k:=by
 unfold oh;cases y with
 | ms c es off n=>simp only [h c (by simp [numsV])]
 | _=>rfl
theorem zx {ats:List TypeId} {x y:MV} (hx:s9 m' m (numsV x)) (hy:s9 m' m (numsV y)):fq P T m' cnt ats x y=fq P T m cnt ats x y:=by
 unfold fq;have hs: ∀es k,oh m' es y k=oh m es y k:=fun es k=>Hp hy
 cases x with
 | ms c es off n=>simp only [hs,hx c (by simp [numsV])]
 | _=>simp only [hs]
theorem zy {t:TypeId} {p k x:MV} (h:s9 m' m (numsV p)):fu P m' t p k x=fu P m t p k x:=by
 unfold fu;split
 ·have hh:=h _ (b₅ ..);simp only [hh]
 ·rfl
theorem Ff {p:MV} {b:Bool} (h:s9 m' m (numsV p)):lf m' p b=lf m p b:=by
 unfold lf;split
 ·have hh:=h _ (b₅ ..);simp only [hh]
 ·rfl
theorem zz {t:TypeId} {p k:MV} {ok:Bool} (h:s9 m' m (numsV p)):fT P T m' t p k ok=fT P T m t p k ok:=by
 unfold fT;split
 ·have hh:=h _ (b₅ ..);simp only [hh]
 ·rfl
theorem BR {t:Option TypeId} {x:MV} (h:s9 m' m (numsV x)):ir T m' t x=ir T m t x:=by
 unfold ir;generalize t.bind (bf.find T)=q;cases q with
 | none=>rfl
 | some d=>
  cases d with
  | slice e es=>
   cases x with
   | ms c es off n=>simp only [h c (by simp [numsV])]
   | _=>rfl
  | _=>rfl
theorem xC {b:Builtin} {ats:Array TypeId} {vs:List MV} (h:s9 m' m (numsVs vs)):cT P T m' cnt b ats vs=cT P T m cnt b ats vs:=by
 cases b with
 | append=>
  unfold cT
  match vs,h with
  | [x,y],h=>exact zx (fun c hc=>h c (by simp [numsVs,hc])) fun c hc=>h c (by simp [numsVs,hc])
  | [],_=>rfl
  | [_],_=>rfl
  | _ :: _ :: _ :: _,_=>rfl
 | clear=>
  unfold cT
  match vs,h with
  | [x],h=>exact BR fun c hc=>h c (by simp [numsVs,hc])
  | [],_=>rfl
  | _ :: _ :: _,_=>rfl
 | _=>rfl
theorem zA {is:List Nat} {vs:List MV} {c es off k:Nat} (h:is.zip vs= [(0, .ms c es off k)]):c∈numsVs vs:=by
 cases is with
 | nil=>simp at h
 | cons i is=>
  cases vs with
  | nil=>simp at h
  | cons v vs=>
   rw [List.zip_cons_cons] at h;injection h with h1 h2
   injection h1 with h1 h3
   subst h3;simp [numsVs,numsV]
theorem Kv {o:Oper} (h:s9 m' m (numsO e o.op.operands.toList)):im P T e m' cnt o=im P T e m cnt o:=by
 obtain⟨dst,op,ty,pos,after,guard⟩:=o;replace h:s9 m' m (numsO e op.operands.toList):=h;cases op with
 | load t x=>
  refine iw fun v hv=>Fc fun c hc=>h c ?_
  simp [Op.operands,numsO,hv,hc]
 | slice t x lo hi mx=>
  cases mx with
  | some _=>rfl
  | none=>
  refine iw fun v hv=>?_
  have e1: ∀lo hi,ez T m' t v lo hi=ez T m t v lo hi:=fun lo hi=>zw fun c hc=>h c (by simp [Op.operands,numsO,hv,hc])
  simp only [e1]
 | store t x y=>
  refine iw fun v hv=>iw fun u _=>BQ fun c hc=>h c ?_
  simp [Op.operands,numsO,hv,hc]
 | mapUpdate t p k x=>
  refine iw fun v hv=>iw fun u _=>iw fun u2 _=>zy fun c hc=>h c ?_
  simp [Op.operands,numsO,hv,hc]
 | next x b=>
  refine iw fun v hv=>Ff fun c hc=>h c ?_
  simp [Op.operands,numsO,hv,hc]
 | lookup t p k ok=>
  refine iw fun v hv=>iw fun u _=>zz fun c hc=>h c ?_
  simp [Op.operands,numsO,hv,hc]
 | convert s d x=>
  refine iw fun v hv=>Fe fun c hc=>h c ?_
  simp [Op.operands,numsO,hv,hc]
 | buildSlice t n parts=>
  refine xB fun vs hvs=>?_
  generalize hz:(parts.toList.map (·.1)).zip vs=zs;have e:(Op.buildSlice t n parts).operands.toList=parts.toList.map (·.2):=by simp [Op.operands]
  rw [e,hX hvs] at h
  show(match mJ n zs with | some x=>_ | none=>_)=(match mJ n zs with | some x=>_ | none=>_)
  split
  ·rename_i x hx;obtain⟨rfl,rfl⟩:=lD hx;have hc:x.1∈numsVs vs:=zA hz;unfold dO;simp only [h _ hc]
  ·rfl
 | call c=>
  obtain⟨callee,args,ats⟩:=c;cases callee with
  | builtin b=>
   refine xB fun vs hvs=>xC fun c hc=>h c ?_
   have e:(Op.call ⟨.builtin b,args,ats⟩).operands.toList=args.toList:=by simp [Op.operands,Call.operands]
   rw [e,hX hvs];exact hc
  | _=>rfl
 | _=>rfl
def dJ (S:List Nat):Dl→Prop
 | .none=>True
 | .new _=>True
 | .upd c _=>c∈S
 | .mv c _=>c∈S
 | .bump l=> ∀x∈l,x.1∈S
theorem zB {t:TypeId} {p v:MV}:ak (dJ (numsV p)) (ff T m t p v):=by
 unfold ff;split
 ·exact ak.bad
 ·split
  ·split
   ·exact ak.cond (ak.prf (ak.ask fun _=>ak.ask fun _=>ak.val fun _=>ak.ret (by simp [dJ,numsV]))) ak.bad
   ·exact ak.bad
  ·exact ak.bad
theorem xD {t:TypeId} {p k x:MV}:ak (dJ (numsV p)) (fu P m t p k x):=by
 unfold fu;split
 ·split
  ·split
   ·refine ak.cond (ak.prf (ak.ask fun _=>ak.ask fun r=>?_)) ak.bad;cases r <;> exact ak.val fun _=>ak.ret (by simp [dJ,numsV])
   ·exact ak.bad
  ·exact ak.bad
 ·exact ak.bad
theorem BS {p:MV} {b:Bool}:ak (dJ (numsV p)) (lf m p b):=by
 unfold lf;split
 ·split
  ·split
   ·refine ak.ask fun _=>ak.val fun r=>?_
    rcases r with _ | ⟨_,_⟩
    ·exact ak.ret (by simp [dJ,numsV])
    ·exact ak.ret (by simp [dJ,numsV])
   ·exact ak.bad
  ·exact ak.bad
 ·exact ak.bad
theorem xE {ats:List TypeId} {x y:MV}:ak (dJ (numsV x)) (fq P T m cnt ats x y):=by
 have src: ∀{es:Nat} {k:Bool→Nat→List MV→aX (MV×Dl)},(∀fl n l,ak (dJ (numsV x)) (k fl n l))→ak (dJ (numsV x)) (oh m es y k):=by
  intro es k hk;unfold oh;split
  ·exact ak.prf (hk _ _ _)
  ·exact hk _ _ _
  ·split
   ·exact ak.cond (ak.prf (ak.val fun _=>hk _ _ _)) ak.bad
   ·exact ak.bad
  ·exact ak.bad
 unfold fq;split
 ·refine ak.cond ?_ ak.bad;split
  ·split
   ·refine ak.cond (ak.ask fun _=>src fun fl n l=>?_) ak.bad;split
    ·exact ak.prf (ak.cond (ak.ret trivial) ak.bad)
    ·split
     ·exact ak.cond (ak.prf (ak.val fun _=>ak.val fun _=>ak.ret (by simp [dJ,numsV]))) ak.bad
     ·exact ak.bad
    ·exact ak.bad
   ·exact ak.bad
  ·exact ak.bad
 ·exact ak.bad
theorem zC {t:Option TypeId} {x:MV}:ak (dJ (numsV x)) (ir T m t x):=by
 unfold ir;split
 ·split
  ·exact ak.cond (ak.prf (ak.val fun _=>ak.ret (by simp [dJ,numsV]))) ak.bad
  ·exact ak.bad
 ·exact ak.bad
theorem dJ.sub {S S':List Nat} {δ:Dl} (h:dJ S δ) (hs: ∀c∈S,c∈S'):dJ S' δ:=by
 cases δ with
 | none=>trivial
 | new=>trivial
 | upd c l=>exact hs c h
 | mv c b=>exact hs c h
 | bump l=>exact fun x hx=>hs _ (h x hx)
theorem lG: ∀{l:List Operand} {k:List MV→aX A} {K:A→Prop},(ln e l k).runP K→∃vs,l.map (iD e)=vs.map some∧(k vs).runP K
 | [],_,_,h=>⟨[],rfl,h⟩
 | x :: l,k,K,h=>by
  unfold ln rd at h
  split at h
  ·rename_i v hv
   obtain⟨vs,h1,h2⟩:=lG (k:=fun r=>k (v :: r)) h
   exact⟨v :: vs,by simp [hv,h1],h2⟩
  ·exact h.elim
theorem zD {o:Oper} {r:MV} {δ:Dl} (h:(im P T e m cnt o).runP fun x=>x=(r,δ)):dJ (numsO e o.op.operands.toList) δ:=by
 have gen:c₈ (pK o) 1=true→dJ (numsO e o.op.operands.toList) δ:=by
  intro hk;obtain⟨r',δ',h1,h2⟩:=Dv P T e m cnt o _ h;injection h2 with h2 h3
  subst h3;generalize pK o=k at h1 hk
  match k,h1,hk with
  | 0,h1,_=>rw [show δ'= .none from h1];trivial
  | 1,h1,_=>obtain ⟨b,h1⟩:=(show ∃b,δ'= .new b from h1);rw [h1];trivial
  | _ + 2,_,hk=>simp at hk
 have fromRd: ∀{x:Operand} {k:MV→aX (MV×Dl)} {S:List Nat},(∀v,iD e x=some v→ak (dJ S) (k v))→(rd e x k).runP (fun x=>x=(r,δ))→dJ S δ:=by
  intro x k S hk h;unfold rd at h;split at h
  ·rename_i v hv;obtain⟨r',δ',h1,h2⟩:=hk v hv _ h;injection h2 with h2 h3
   subst h3;exact h1
  ·exact h.elim
 obtain⟨dst,op,ty,pos,after,guard⟩:=o;cases op with
 | load t x=>
  refine fromRd (S:=numsO e [x]) (fun v hv=>(vZ T m _ _).weak fun δ hδ=>?_) h;rw [hδ];trivial
 | convert s d x=>
  refine fromRd (S:=numsO e [x]) (fun v hv=>(v7 T m _ _ _).weak fun δ hδ=>?_) h;rw [hδ];trivial
 | lookup t p k ok=>
  refine fromRd (S:=numsO e [p,k]) (fun v hv=>ak.rd fun _=>(qT P T m _ _ _ _).weak fun δ hδ=>?_) h;rw [hδ];trivial
 | next x b=>
  refine fromRd (S:=numsO e [x]) (fun v hv=>?_) h;intro K hK;obtain⟨r',δ',h1,h2⟩:=BS K hK;exact⟨r',δ',h1.sub fun c hc=>by simp [numsO,hv,hc],h2⟩
 | mapUpdate t p k x=>
  refine fromRd (S:=numsO e [p,k,x]) (fun v hv=>?_) h;refine ak.rd fun u=>ak.rd fun u2=>?_
  intro K hK;obtain⟨r',δ',h1,h2⟩:=xD K hK;exact⟨r',δ',h1.sub fun c hc=>by simp [numsO,hv,hc],h2⟩
 | slice t x lo hi mx=>
  cases mx with
  | some _=>exact h.elim
  | none=>
  refine fromRd (fun v hv=>ak.rdo fun lo'=>ak.rdo fun hi'=>?_) h;unfold ez;split
  ·rename_i n e0 es c k0 k fo path hd;split
   ·split
    ·exact ak.cond (ak.ask fun _=>ak.val fun _=>ak.val fun _=>ak.ret fun y hy=>by
      simp at hy;subst hy;simp [Op.operands,numsO,hv,numsV]) ak.bad
    ·exact ak.bad
   ·exact ak.bad
  ·exact(sW T _ _ _ _).weak fun δ hδ=>by rw [hδ];trivial
 | buildSlice t n parts=>
  match n,gen,h with
  | 0,gen,_=>exact gen rfl
  | _ + 2,gen,_=>exact gen rfl
  | 1,_,h=>
   obtain⟨vs,h1,h2⟩:=lG h;generalize hz:(parts.toList.map (·.1)).zip vs=zs at h2;have e1:(Op.buildSlice t 1 parts).operands.toList=parts.toList.map (·.2):=by simp [Op.operands]
   show dJ (numsO e (Op.buildSlice t 1 parts).operands.toList) δ
   rw [e1,hX h1];split at h2
   ·rename_i x hx;obtain⟨_,rfl⟩:=lD hx;have hc:x.1∈numsVs vs:=zA hz;have ho:ak (dJ (numsVs vs)) (dO T m cnt t x.1 x.2.1 x.2.2.1 x.2.2.2):=by
     unfold dO
     repeat' split
     all_goals first | exact ak.bad | exact ak.cond (ak.prf (ak.val fun _=>ak.ret hc)) ak.bad
    obtain⟨r',δ',h3,h4⟩:=ho _ h2;injection h4 with h4 h5
    subst h5;exact h3
   ·obtain⟨r',δ',⟨b,h3⟩,h4⟩:=fw T cnt _ _ _ _ h2;injection h4 with h4 h5
    subst h5;rw [h3];trivial
 | store t x y=>
  refine fromRd (S:=numsO e [x,y]) (fun v hv=>?_) h;refine ak.rd fun u=>?_
  intro K hK;obtain⟨r',δ',h1,h2⟩:=zB K hK;exact⟨r',δ',h1.sub fun c hc=>by simp [numsO,hv,hc],h2⟩
 | call c=>
  obtain⟨callee,args,ats⟩:=c;cases callee with
  | builtin b=>
   cases b with
   | append=>
    have e1:(Op.call ⟨.builtin .append,args,ats⟩).operands.toList=args.toList:=by simp [Op.operands,Call.operands]
    show dJ (numsO e (Op.call ⟨.builtin .append,args,ats⟩).operands.toList) δ
    rw [e1];replace h:(ln e args.toList fun vs=>cT P T m cnt .append ats vs).runP fun x=>x=(r,δ):=h
    have key: ∀(l:List Operand) (k:List MV→aX (MV×Dl)) (K:MV×Dl→Prop),(ln e l k).runP K→∃vs,l.map (iD e)=vs.map some∧(k vs).runP K:=by
     intro l
     induction l with
     | nil=>intro k K h;exact⟨[],rfl,h⟩
     | cons x l ih=>
      intro k K h;unfold ln rd at h;split at h
      ·rename_i v hv;obtain⟨vs,h1,h2⟩:=ih _ K h;exact⟨v :: vs,by simp [hv,h1],h2⟩
      ·exact h.elim
    obtain⟨vs,h1,h2⟩:=key _ _ _ h;rw [hX h1];unfold cT at h2;simp only at h2;split at h2
    ·rename_i x y;obtain⟨r',δ',h3,h4⟩:=xE _ h2;injection h4 with h4 h5
     subst h5;exact h3.sub fun c hc=>by simp [numsVs,hc]
    ·exact h2.elim
   | clear=>
    have e1:(Op.call ⟨.builtin .clear,args,ats⟩).operands.toList=args.toList:=by simp [Op.operands,Call.operands]
    show dJ (numsO e (Op.call ⟨.builtin .clear,args,ats⟩).operands.toList) δ
    rw [e1];replace h:(ln e args.toList fun vs=>cT P T m cnt .clear ats vs).runP fun x=>x=(r,δ):=h
    have key: ∀(l:List Operand) (k:List MV→aX (MV×Dl)) (K:MV×Dl→Prop),(ln e l k).runP K→∃vs,l.map (iD e)=vs.map some∧(k vs).runP K:=by
     intro l
     induction l with
     | nil=>intro k K h;exact⟨[],rfl,h⟩
     | cons x l ih=>
      intro k K h;unfold ln rd at h;split at h
      ·rename_i v hv;obtain⟨vs,h1,h2⟩:=ih _ K h;exact⟨v :: vs,by simp [hv,h1],h2⟩
      ·exact h.elim
    obtain⟨vs,h1,h2⟩:=key _ _ _ h;rw [hX h1];unfold cT at h2;simp only at h2;split at h2
    ·rename_i x;obtain⟨r',δ',h3,h4⟩:=zC _ h2;injection h4 with h4 h5
     subst h5;exact h3.sub fun c hc=>by simp [numsVs,hc]
    ·exact h2.elim
   | _=>exact gen rfl
  | _=>exact h.elim
 | _=>exact gen rfl
theorem Hq {S:List Nat} {δ:Dl} (h:dJ S δ) {c:Nat} (hc:c ∉ S) (hn:c≠cnt):δ.appF cnt m c=m c:=by
 cases δ with
 | none=>rfl
 | new b=>exact aK _ _ hn
 | upd c' l=>
  show(match m c' with | some b=>aN m c' { b with l:=l } | none=>m) c=m c
  cases m c' with
  | none=>rfl
  | some b=>exact aK _ _ (by rintro rfl;exact hc h)
 | mv c' b=>
  show aN (iF m c') cnt b c=m c
  rw [aK _ _ hn];unfold iF;rw [if_neg (by rintro rfl;exact hc h)]
 | bump l=>
  show cJ m l c=m c
  rw [bumpF_get];have h': ∀x∈l,x.1∈S:=h
  clear h;have:mxB l c=0:=by
   induction l with
   | nil=>rfl
   | cons x l ih=>
    obtain⟨k,n⟩:=x;have:k≠c:=by rintro rfl;exact hc (h' (k,n) sm)
    simp only [mxB,this,if_false];exact ih fun y hy=>h' y (by simp [hy])
  rw [this];cases m c with
  | none=>rfl
  | some b=>simp
theorem Kw {S:List Nat} {δ:Dl} (h:dJ S δ) (ha: ∀c,c∈S∨c=cnt→m' c=m c) {c:Nat} (hc:c∈S∨c=cnt):δ.appF cnt m' c=δ.appF cnt m c:=by
 cases δ with
 | none=>exact ha c hc
 | new b=>
  show aN m' cnt b c=aN m cnt b c
  unfold aN;split
  ·rfl
  ·exact ha c hc
 | upd c' l=>
  show(match m' c' with | some b=>aN m' c' { b with l:=l } | none=>m') c=(match m c' with | some b=>aN m c' { b with l:=l } | none=>m) c
  rw [ha c' (.inl h)];cases m c' with
  | none=>exact ha c hc
  | some b=>
   show aN m' c' _ c=aN m c' _ c
   unfold aN;split
   ·rfl
   ·exact ha c hc
 | mv c' b=>
  show aN (iF m' c') cnt b c=aN (iF m c') cnt b c
  unfold aN iF;split
  ·rfl
  ·split
   ·rfl
   ·exact ha c hc
 | bump l=>
  show cJ m' l c=cJ m l c
  rw [bumpF_get,bumpF_get,ha c hc]
mutual
theorem zE: ∀{p:MV} {K:MV×List (Nat×Nat)→Prop},(cM m p).runP K→(cM m p).runP fun x=>K x∧∀z∈x.2,z.1∈numsV p
 | .ms c es off n,K,h=>by
  simp only [cM] at h ⊢
  split at h
  ·split at h
   ·obtain⟨a1,l,a2,h⟩:=h
    exact⟨a1,l,a2,h,fun z hz=>by simp at hz;subst hz;simp [numsV]⟩
   ·exact h.elim
  ·exact h.elim
 | .st l,K,h=>by simp only [cM] at h ⊢;exact cR (jK (aX.bind_runP.1 h)) fun _ h=>h
 | .fn f l,K,h=>by simp only [cM] at h ⊢;exact cR (jK (aX.bind_runP.1 h)) fun _ h=>h
 | .ifc t v,K,h=>by simp only [cM] at h ⊢;exact gW (zE (aX.bind_runP.1 h)) fun _ h=>h
 | .ptr c es k fo path,K,h=>by
  simp only [cM] at h ⊢
  split at h
  ·rename_i b hb
   cases he:a₆ b.es es with
   | false=>rw [he] at h;exact h.elim
   | true=>
    rw [he] at h
    obtain⟨v,q1,h⟩:=h
    dsimp only at h
    cases hf:v.idFree with
    | false=>rw [hf] at h;exact h.elim
    | true=>rw [hf] at h;exact⟨v,q1,by simp only [hf];exact⟨h,fun z hz=>by simp at hz;subst hz;simp [numsV]⟩⟩
  ·exact h.elim
 | .tup _,K,h=>by simp only [cM] at h;exact h.elim
 | .undef,K,h=>by simp only [cM] at h;exact h.elim
 | .mp _,K,h=>by simp only [cM] at h;exact h.elim
 | .mpv ..,K,h=>by simp only [cM] at h;exact h.elim
 | .int ..,K,h=>by simp only [cM] at h ⊢;exact⟨h,fun _ hc=>nomatch hc⟩
 | .bool ..,K,h=>by simp only [cM] at h ⊢;exact⟨h,fun _ hc=>nomatch hc⟩
 | .str ..,K,h=>by simp only [cM] at h ⊢;exact⟨h,fun _ hc=>nomatch hc⟩
 | .nilp,K,h=>by simp only [cM] at h ⊢;exact⟨h,fun _ hc=>nomatch hc⟩
 | .gp ..,K,h=>by simp only [cM] at h ⊢;exact⟨h,fun _ hc=>nomatch hc⟩
 | .ep ..,K,h=>by simp only [cM] at h ⊢;exact⟨h,fun _ hc=>nomatch hc⟩
 | .sl ..,K,h=>by simp only [cM] at h ⊢;exact⟨h,fun _ hc=>nomatch hc⟩
 | .nils,K,h=>by simp only [cM] at h ⊢;exact⟨h,fun _ hc=>nomatch hc⟩
 | .nilf,K,h=>by simp only [cM] at h ⊢;exact⟨h,fun _ hc=>nomatch hc⟩
 | .nili,K,h=>by simp only [cM] at h ⊢;exact⟨h,fun _ hc=>nomatch hc⟩
 | .arr ..,K,h=>by simp only [cM] at h ⊢;exact⟨h,fun _ hc=>nomatch hc⟩
theorem jK: ∀{l:List MV} {K:List MV×List (Nat×Nat)→Prop},(fh m l).runP K→(fh m l).runP fun x=>K x∧∀z∈x.2,z.1∈numsVs l
 | [],K,h=>⟨h,fun _ hc=>nomatch hc⟩
 | q :: l,K,h=>by
  simp only [fh] at h ⊢
  refine gW (zE (aX.bind_runP.1 h)) fun x hx=>?_
  refine cR (jK (aX.bind_runP.1 hx.1)) fun y hy=>⟨hy.1,fun c hc=>?_⟩
  rw [numsVs,a₈]
  rcases a₈.1 hc with hc | hc
  ·exact .inl (hx.2 c hc)
  ·exact .inr (hy.2 c hc)
end
theorem zF {B:Type}: ∀{l:List Operand} {k:List MV→aX A} {k':List MV→aX B} {K:A→Prop} {K':B→Prop},(∀vs,l.map (iD e)=vs.map some→(k vs).runP K→(k' vs).runP K')→(ln e l k).runP K→(ln e l k').runP K'
 | [],_,_,_,_,hk,h=>hk [] rfl h
 | x :: l,k,k',K,K',hk,h=>by
  unfold ln rd at h ⊢
  split at h
  ·rename_i v hv
   exact zF (k:=fun r=>k (v :: r)) (k':=fun r=>k' (v :: r)) (fun vs hvs h=>hk (v :: vs) (by simp [hv,hvs]) h) h
  ·exact h.elim
section
variable {ents:List FuncId} {G:GS} {ops:Array Oper} {o:Oper} {n:Nat} {r:MV} {δ:Dl} {m1:FM}
theorem ta {c:Call} {f:Operand} (hf:c.callee= .value f):(Op.call c).operands.toList=f :: c.args.toList:=by simp [Op.operands,Call.operands,hf]
theorem Fg (h:kD P T ents G o e m n r δ):dJ (numsO e o.op.operands.toList) δ:=by
 unfold kD at h;split at h
 ·rename_i c hc;split at h
  ·rename_i f hf;rw [hc,ta hf];unfold fU rd at h;split at h
   ·rename_i v hv;obtain⟨vs,h1,h2⟩:=lG h;split at h2
    ·obtain⟨_,x,_,h4,h3⟩:=gx (jK (aX.bind_runP.1 h2));obtain⟨_,_,rfl,_⟩:=h4;intro z hz;have:=h3 z hz;rw [nM] at this;simp only [numsO,hv,numsV,hX h1,a₈] at this ⊢;exact this.symm
    ·exact h2.elim
   ·exact h.elim
  ·exact zD h
 ·exact zD h
theorem wa (h:nf P T ents G ops o e m n r δ):dJ (numsO e o.op.operands.toList) δ:=by
 obtain⟨b,_,h2,h3⟩:=h;cases b with
 | false=>rw [(h3 rfl).2];trivial
 | true=>exact Fg (h2 rfl)
theorem Hr (ha:s9 m1 m (numsO e o.op.operands.toList)):kD P T ents G o e m n r δ→kD P T ents G o e m1 n r δ:=by
 have hp:im P T e m1 n o=im P T e m n o:=Kv ha;unfold kD;split
 ·rename_i c hc;split
  ·rename_i f hf;rw [hc,ta hf] at ha;intro hr;unfold fU rd at hr ⊢;split at hr
   ·rename_i v hv;refine zF (fun vs hvs h=>?_) hr;split at h
    ·rename_i f0 caps;have hag:s9 m1 m (numsVs (vs ++ caps)):=fun c hc=>ha c (by
      rw [nM] at hc;simp only [numsO,hv,numsV,hX hvs,a₈] at hc ⊢;exact hc.symm)
     show(fh m1 (vs ++ caps)).runP _
     rw [oH hag];refine cR (jK (aX.bind_runP.1 h)) fun x hx=>?_
     obtain⟨⟨p1,p2,p3,p4⟩,p5⟩:=hx;exact⟨p1,p2,p3,fun z hz=>by rw [hag z.1 (p5 z hz)];exact p4 z hz⟩
    ·exact h.elim
   ·exact hr.elim
  ·rw [hp];exact id
 ·rw [hp];exact id
theorem Hs (ha:s9 m1 m (numsO e o.op.operands.toList)):nf P T ents G ops o e m n r δ→nf P T ents G ops o e m1 n r δ:=by
 rintro⟨b,h1,h2,h3⟩;exact⟨b,h1,fun hb=>Hr ha (h2 hb),h3⟩
end
end
end
section
theorem BT (m:FM) (l l':List (Nat×Nat)):cJ (cJ m l) l'=cJ (cJ m l') l:=by
 funext c;rw [bumpF_get,bumpF_get,bumpF_get,bumpF_get];cases m c with
 | none=>rfl
 | some b=>simp [Nat.max_assoc,Nat.max_comm (mxB l c)]
theorem tb (m:FM) (l:List (Nat×Nat)):eC m (cJ m l):=fun c b h=>⟨{ b with pe:=Nat.max b.pe (mxB l c) },by rw [bumpF_get,h];rfl,rfl,rfl,rfl,rfl⟩
theorem tc (m:FM) (l:List (Nat×Nat)):eC (cJ m l) m:=fun c b h=>by
 rw [bumpF_get] at h;cases hb:m c with
 | none=>rw [hb] at h;cases h
 | some b'=>rw [hb] at h;injection h with h;subst h;exact⟨b',rfl,rfl,rfl,rfl,rfl⟩
theorem Fh {m:FM} {j:Nat} (h:m j=none) (b:MB):eC m (aN m j b):=fun c b' hb=>by
 have:aN m j b c=some b':=by
  unfold aN;rw [if_neg]
  ·exact hb
  ·rintro rfl;rw [h] at hb;cases hb
 exact⟨b',this,rfl,rfl,rfl,rfl⟩
theorem Fi {m:FM} {j:Nat} {b:MB} {l:List (Nat×Nat)} (h:m j=none) (hl: ∀c∈l,m c.1≠none):cJ (aN m j b) l=aN (cJ m l) j b:=by
 have h0: ∀{l:List (Nat×Nat)},(∀c∈l,m c.1≠none)→mxB l j=0:=by
  intro l
  induction l with
  | nil=>intro _;rfl
  | cons x l ih=>
   intro hl;obtain⟨k,n⟩:=x;have:k≠j:=by rintro rfl;exact hl (k,n) sm h
   simp only [mxB,this,if_false];exact ih fun c hc=>hl c (by simp [hc])
 funext c;rw [bumpF_get];unfold aN;by_cases hc:c=j
 ·subst hc;simp [h0 hl]
 ·simp only [hc,if_false];rw [bumpF_get]
theorem wc {α:Type} {m:Nat→Option α} {i j:Nat} {a b:α} (h:i≠j):aN (aN m i a) j b=aN (aN m j b) i a:=by
 funext c;unfold aN;by_cases h1:c=i
 ·subst h1;simp [h]
 ·simp [h1]
section
variable (Pg:Program) (T:bf) (N:Nat) (ents:List FuncId) (G:GS)
def eJ (e:Nat→Option MV) (f:Operand) (args:List Operand):aX (FuncId×List MV):=
 rd e f fun fv=>ln e args fun vs=>match fv with
  | .fn f0 caps=> .ret (f0,vs ++ caps)
  | _=> .bad
def vG (o:Oper) (n:Nat) (e:Nat→Option MV) (m:FM) (fp:List Nat) (r:MV) (m':FM):Prop:=match o.op with
 | .call c=>match c.callee with
  | .value f=>(eJ e f c.args.toList).runP fun x=>ents.contains x.1=true∧∃M,VM.get M=m∧lE Pg G M n x.1 x.2 fp fun r' M'=>r'=r∧VM.get M'=m'
  | _=>False
 | _=>False
def Ht (ops:Array Oper) (o:Oper) (n:Nat) (e:Nat→Option MV) (m:FM) (fp:List Nat) (r:MV) (m':FM):Prop:=
 ∃b,BO ops o e=some b∧(b=true→vG Pg ents G o n e m fp r m')∧(b=false→r= .undef∧m'=m)
def cQ (ops:Array Oper) (rf:Bool) (o:Oper) (n:Nat) (fp:List Nat) (e:Nat→Option MV) (m:FM) (e':Nat→Option MV) (m':FM):Prop:=
 ∃r,(∀d,o.dst=some d→d < N)∧e'=kE o.dst r e∧match rf with
  | false=> ∃δ,nf Pg T ents G ops o e m n r δ∧m'=δ.appF n m∧fp=numsO e o.op.operands.toList
  | true=>Ht Pg ents G ops o n e m fp r m'
end
section
variable {Pg:Program} {T:bf} {N:Nat} {ents:List FuncId} {G:GS} {ops:Array Oper} {o x y:Oper} {e e1 e2 e':Nat→Option MV} {m m1 m2 m':FM} {M M2:VM} {i j n:Nat} {fp fx fy:List Nat} {rf rx ry:Bool} {r:MV}
theorem gN {d:Option Tmp} {r:MV} {e:Nat→Option MV} {l:List Tmp} (h: ∀t,d=some t→t ∉ l): ∀t∈l,kE d r e t=e t:=by
 intro t ht;cases d with
 | none=>rfl
 | some d=>
  show aN e d r t=e t
  unfold aN;rw [if_neg];rintro rfl;exact h _ rfl ht
theorem mL {d d':Option Tmp} {r r':MV} (h: ∀t,d=some t→d'≠some t):kE d r (kE d' r' e)=kE d' r' (kE d r e):=by
 cases d with
 | none=>rfl
 | some d=>
  cases d' with
  | none=>rfl
  | some d'=>exact wc fun hh=>h d rfl (by rw [hh])
theorem we {t:Operand} (h: ∀t∈o.looksAt ops,e t=e' t) (ht:t∈o.op.operands.toList):iD e t=iD e' t:=Hm fun s hs=>h s (by
 subst hs;unfold Oper.looksAt;refine a₈.2 (.inl ?_);rw [List.mem_filterMap];exact⟨_,ht,rfl⟩)
theorem oI (h: ∀t∈o.looksAt ops,e t=e' t):numsO e o.op.operands.toList=numsO e' o.op.operands.toList:=by
 have key: ∀l:List Operand,(∀x∈l,iD e x=iD e' x)→numsO e l=numsO e' l:=by
  intro l
  induction l with
  | nil=>intro _;rfl
  | cons x l ih=>intro h;simp only [numsO];rw [h x sm,ih fun y hy=>h y (by simp [hy])]
 exact key _ fun x hx=>we h hx
theorem ME (h: ∀t∈o.looksAt ops,e t=e' t):BO ops o e=BO ops o e':=by
 unfold BO;split
 ·rfl
 ·rename_i j want hg;split
  ·rfl
  ·rename_i s hs;rw [h s (by
    unfold Oper.looksAt;rw [hg];simp [hs])]
theorem Kx (h: ∀t∈o.looksAt ops,e t=e' t):vG Pg ents G o n e m fp r m'→vG Pg ents G o n e' m fp r m':=by
 have hh: ∀x∈o.op.operands.toList,iD e x=iD e' x:=fun x hx=>we h hx
 unfold vG;split
 ·rename_i c hc;split
  ·rename_i f hf;rw [hc,ta hf] at hh;have:eJ e f c.args.toList=eJ e' f c.args.toList:=by
    unfold eJ;rw [cP (hh f sm)];congr 1;funext v;rw [nL fun x hx=>hh x (by simp [hx])]
   rw [this];exact id
  ·exact id
 ·exact id
theorem Ky (h: ∀t∈o.looksAt ops,e t=e' t):Ht Pg ents G ops o n e m fp r m'→Ht Pg ents G ops o n e' m fp r m':=by
 rintro⟨b,h1,h2,h3⟩;exact⟨b,by rw [← ME h];exact h1,fun hb=>Kx h (h2 hb),h3⟩
theorem zG {l S:List Nat} (h:vy l S=true): ∀c∈l,c∈S:=by
 intro c hc;unfold vy at h;rw [a₇] at h;obtain⟨x,hx,he⟩:=c₉.1 (h c hc);rw [← a₉ he];exact hx
theorem jo: ∀(σ:List (Nat×Nat)) (M:VM) (x:Nat),x ∉ σ.map (·.2)→VM.get (iv M σ) x=VM.get M x
 | [],M,x,_=>rfl
 | (c,d) :: σ,M,x,h=>by
  simp only [c₀,b₂,not_or] at h
  show VM.get (iv (VM.del M d) σ) x=_
  rw [jo σ _ x h.2,VM.get_del]
  unfold iF
  rw [if_neg h.1]
theorem qU: ∀(σ:List (Nat×Nat)) (M:VM) (x:Nat),x∈σ.map (·.2)→VM.get (iv M σ) x=none:=by
 intro σ M x h;cases hx:VM.get (iv M σ) x with
 | none=>rfl
 | some b=>
  obtain⟨_,h2⟩:=lF σ M x b hx;obtain⟨⟨c,d⟩,h3,rfl⟩:=b₆.1 h;exact absurd h3 (h2 c)
theorem Fj {bs:List (Nat×Nat)} {c:Nat} (h:c ∉ bs.map (·.1)):VM.get (VM.bump M bs) c=VM.get M c:=by
 rw [VM.get_bump,bumpF_get];have:mxB bs c=0:=by
  induction bs with
  | nil=>rfl
  | cons x l ih=>
   obtain⟨k,n⟩:=x;simp only [c₀,b₂,not_or] at h;simp only [mxB];rw [if_neg fun hh=>h.1 (Eq.symm hh)];exact ih h.2
 rw [this];cases VM.get M c with
 | none=>rfl
 | some b=>simp
theorem zH {bs:List (Nat×Nat)} {c:Nat} (h:VM.get M2 c=VM.get M c):VM.get (VM.bump M2 bs) c=VM.get (VM.bump M bs) c:=by
 rw [VM.get_bump,VM.get_bump,bumpF_get,bumpF_get,h]
theorem dP.loc {args vs:List MV} {M0:VM} {n0:Nat} {σ bs:List (Nat×Nat)} (h:dP 0 args M0 n0 vs M σ bs) (ha:s9 (VM.get M2) (VM.get M) fp) (h1: ∀c∈σ.map (·.2),c∈fp) (h2: ∀c∈bs.map (·.1),c∈fp):dP 0 args M0 n0 vs M2 σ bs:=by
 obtain⟨q1,q2,q3,q4,q5⟩:=h;have hb:Dq M2 bs:=by
  clear q4 q5
  induction bs with
  | nil=>trivial
  | cons x l ih=>
   obtain⟨c,k⟩:=x;refine⟨?_,ih (fun c hc=>h2 c (by simp at hc ⊢;exact .inr hc)) q2.2⟩;rw [ha c (h2 c sm)];exact q2.1
 have hf:kz M2 bs=kz M bs:=by
  clear q2 q4 q5 hb
  induction bs with
  | nil=>rfl
  | cons x l ih=>
   obtain⟨c,k⟩:=x;funext d
   show(bif a₆ c d then(match VM.get M2 d with | some b=>some (b,k) | none=>none) else kz M2 l d)=(bif a₆ c d then(match VM.get M d with | some b=>some (b,k) | none=>none) else kz M l d)
   by_cases e:c=d
   ·subst e;rw [ha c (h2 c sm)];simp
   ·simp only [fD e,cond_false];rw [ih fun c hc=>h2 c (by simp at hc ⊢;exact .inr hc)]
 refine⟨q1,hb,q3,by rw [hf];exact q4,?_⟩;rw [hf];clear q3 q4
 induction M0 with
 | nil=>trivial
 | cons x M0 ih=>
  obtain⟨c,b'⟩:=x;refine⟨?_,ih q5.2⟩;rcases q5.1 with h | ⟨c0,b,s1,s2,s3⟩
  ·exact .inl h
  ·have hc0:c0∈fp:=h1 c0 (b₆.2 ⟨(c,c0),eD (show kA σ c=some c0 from s1),rfl⟩);exact .inr ⟨c0,b,s1,by rw [zH (ha c0 hc0)];exact s2,s3⟩
theorem xF {ρ:Nat→Nat} {x:Nat}: ∀{M1:VM},(∀z∈M1,ρ z.1≠x)→VM.get (jv ρ M1) x=none
 | [],_=>rfl
 | (c,b) :: M1,h=>by
  show VM.get ((ρ c,_) :: jv ρ M1) x=none
  rw [VM.get_cons,if_neg (h (c,b) sm)]
  exact xF fun z hz=>h z (by simp [hz])
theorem N5 {σ:List (Nat×Nat)} {n0 n1:Nat} {M1:VM} {z:Nat×MB} (hk:vU σ n0 n1 M1=true) (htw:E3 n n0 n1 fp=true) (hz:z∈M1) (hd:kA σ z.1=none) (ho: ¬ zj n fp (gy n0 n σ z.1)):False:=by
 unfold vU at hk;rw [a₀,a₇] at hk;have:=hk.2 z hz;simp only [hd,Option.isSome_none,Bool.false_or,a₀,b₃] at this;obtain⟨h1,h2⟩:=this;have h2:z.1 < n1:=by simpa [c₆] using h2
 rcases h1 with h1 | h1
 ·have h3:=a₉ h1;rw [h3] at hd ho;rw [nJ hd] at ho;exact ho (.inl rfl)
 ·have h3:=a₉ h1;rw [h3] at hd ho h2;rw [nK hd] at ho;refine ho (.inr ⟨rfl,?_⟩);unfold E3 at htw;rw [b₃] at htw;rcases htw with h4 | h4
  ·have:=d₁ h4;omega
  ·obtain⟨x,hx,he⟩:=c₉.1 h4;rw [a₉ he];exact hx
theorem Hu (h:vG Pg ents G o n e (VM.get M) fp r m') (ha:s9 (VM.get M2) (VM.get M) fp):(∃M2',vG Pg ents G o n e (VM.get M2) fp r (VM.get M2')∧∀c,VM.get M2 c=VM.get M c→VM.get M2' c=m' c)∧∀c,c ∉ fp→c≠n→m' c=VM.get M c:=by
 unfold vG at h ⊢;split at h
 ·rename_i c hc;split at h
  ·rename_i f hf;have key: ∀{K:FuncId×List MV→Prop},(eJ e f c.args.toList).runP K→∃x,K x∧∀K':FuncId×List MV→Prop,K' x→(eJ e f c.args.toList).runP K':=by
    intro K hK;unfold eJ at hK ⊢;obtain⟨a,h1,h2,h3⟩:=(af.rd fun fv=>af.rds fun vs=>by cases fv <;> first | exact af.ret _ | exact af.bad) K hK;exact⟨a,h2,h3⟩
   obtain⟨x,⟨hx,M',hM',args,M0,n0,res,M1,n1,hsem,σ,bs,hL,hin,hk,htw,s1,s2,rfl,rfl⟩,hback⟩:=key h;have hsub1:=zG s1;have hsub2:=zG s2;have ha':s9 (VM.get M2) (VM.get M') fp:=fun c hc=>by rw [hM'];exact ha c hc
   have hin2:gY M2 σ=true:=by
    clear hL hk hsem h
    induction σ with
    | nil=>rfl
    | cons z σ ih=>
     obtain⟨p,q⟩:=z;have hin:((VM.get M' q).isSome && gY M' σ)=true:=hin
     show((VM.get M2 q).isSome && gY M2 σ)=true
     rw [a₀] at hin ⊢;rw [ha' q (hsub1 q sm)];refine⟨hin.1,ih hin.2 ?_ fun c hc=>hsub1 c (by simp at hc ⊢;exact .inr hc)⟩;unfold vy at s1 ⊢;simp only [c₀,List.all_cons,a₀] at s1;exact s1.2
   refine⟨⟨_,hback _ ⟨hx,M2,rfl,args,M0,n0,res,M1,n1,hsem,σ,bs,hL.loc ha' hsub1 hsub2,hin2,hk,htw,s1,s2,rfl,rfl⟩,fun c hc=>?_⟩,fun c hc hcn=>?_⟩
   ·rw [get_app,get_app];have:VM.get (iv (VM.bump M2 bs) σ) c=VM.get (iv (VM.bump M' bs) σ) c:=by
     by_cases hs:c∈σ.map (·.2)
     ·rw [qU _ _ _ hs,qU _ _ _ hs]
     ·rw [jo _ _ _ hs,jo _ _ _ hs,zH (by rw [hM'];exact hc)]
    rw [this]
   ·rw [get_app,xF fun z hz=>?_]
    ·show VM.get (iv (VM.bump M' bs) σ) c=_
     rw [jo _ _ _ fun hs=>hc (hsub1 c hs),Fj fun hs=>hc (hsub2 c hs),hM']
    ·cases hd:kA σ z.1 with
     | none=>exact fun h=>N5 hk htw hz hd (h▸fun ho=>ho.elim (fun h=>hcn h) fun h=>hc h.2)
     | some d=>
      unfold gy;rw [hd];rintro rfl;exact hc (hsub1 _ (b₆.2 ⟨(z.1,d),eD hd,rfl⟩))
  ·exact h.elim
 ·exact h.elim
theorem BU (h1:cQ Pg T N ents G ops false x i fx e m e1 m1) (h2:cQ Pg T N ents G ops false y j fy e1 m1 e2 m2) (ha:x.apart ops y=true) (hc:PL (pK x) (pK y)=true) (hij:i≠j) (_hi:m i=none) (hj:m j=none) :
  ∃e' m',cQ Pg T N ents G ops false y j fy e m e' m'∧cQ Pg T N ents G ops false x i fx e' m' e2 m2:=by
 obtain⟨rx,dx,rfl,δx,ax,rfl,nx⟩:=h1
 obtain⟨ry,dy,rfl,δy,ay,rfl,ny⟩:=h2
 obtain⟨p1,p2,p3⟩:=Oper.apart_spec ha
 have ay':nf Pg T ents G ops y e (δx.appF i m) j ry δy:=sZ (gN p1) ay
 have ex: ∀{m'},nf Pg T ents G ops x e m' i rx δx→nf Pg T ents G ops x (kE y.dst ry e) m' i rx δx:=sZ fun t ht=>(gN p3 t ht).symm
 have hput:=mL (e:=e) (d:=y.dst) (d':=x.dst) (r:=ry) (r':=rx) fun t h h'=>p2 t h' h
 suffices h:nf Pg T ents G ops y e m j ry δy∧nf Pg T ents G ops x e (δy.appF j m) i rx δx∧δy.appF j (δx.appF i m)=δx.appF i (δy.appF j m) from
  ⟨_,_,⟨ry,dy,rfl,δy,h.1,rfl,ny.trans (oI (gN p1))⟩,⟨rx,dx,hput,δx,ex h.2.1,h.2.2,nx.trans (oI fun t ht=>(gN p3 t ht).symm)⟩⟩
 have ox:=sY ax
 have oy:=sY ay'
 match hx:pK x,hy:pK y,hc with
 | 0,_,_=>
  rw [hx] at ox
  obtain rfl:δx= .none:=ox
  exact⟨ay',gA (by rw [hx];rfl) ax,rfl⟩
 | _ + 1,0,_=>
  rw [hy] at oy
  obtain rfl:δy= .none:=oy
  exact⟨gA (by rw [hy];rfl) ay',ax,rfl⟩
 | 1,1,_=>
  rw [hx] at ox
  rw [hy] at oy
  refine⟨gA (by rw [hy];rfl) ay',gA (by rw [hx];rfl) ax,?_⟩
  rcases ox with rfl | ⟨b,rfl⟩
  ·rfl
  ·rcases oy with rfl | ⟨b',rfl⟩
   ·rfl
   ·exact wc hij
 | 2,1,_=>
  rw [hx] at ox
  rw [hy] at oy
  refine⟨gA (by rw [hy];rfl) ay',?_,?_⟩
  ·rcases oy with rfl | ⟨b',rfl⟩
   ·exact ax
   ·exact jJ hx (Fh hj _) ax
  ·rcases oy with rfl | ⟨b',rfl⟩
   ·rfl
   ·rcases ox with rfl | ⟨l,rfl,hl⟩
    ·rfl
    ·exact(Fi hj hl).symm
 | 2,2,_=>
  rw [hx] at ox
  rw [hy] at oy
  rcases ox with rfl | ⟨l,rfl,hl⟩
  ·rcases oy with rfl | ⟨l',rfl,hl'⟩
   ·exact⟨ay',ax,rfl⟩
   ·exact⟨ay',jJ hx (tb _ _) ax,rfl⟩
  ·rcases oy with rfl | ⟨l',rfl,hl'⟩
   ·exact⟨jJ hy (tc _ _) ay',ax,rfl⟩
   ·exact⟨jJ hy (tc _ _) ay',jJ hx (tb _ _) ax,BT _ _ _⟩
 | 1,_ + 2,h=>cases h
 | 2,_ + 3,h=>cases h
 | _ + 3,_ + 1,h=>cases h
theorem zI (h:Ht Pg ents G ops o n e (VM.get M) fp r m') (ha:s9 (VM.get M2) (VM.get M) fp):(∃M2',Ht Pg ents G ops o n e (VM.get M2) fp r (VM.get M2')∧∀c,VM.get M2 c=VM.get M c→VM.get M2' c=m' c)∧∀c,c ∉ fp→c≠n→m' c=VM.get M c:=by
 obtain⟨b,h1,h2,h3⟩:=h;cases b with
 | true=>
  obtain⟨⟨M2',p1,p2⟩,p3⟩:=Hu (h2 rfl) ha;exact⟨⟨M2',⟨true,h1,fun _=>p1,fun h=>nomatch h⟩,p2⟩,p3⟩
 | false=>
  obtain⟨rfl,rfl⟩:=h3 rfl;exact⟨⟨M2,⟨false,h1,fun h=>(nomatch h),fun _=>⟨rfl,rfl⟩⟩,fun _ hc=>hc⟩,fun _ _ _=>rfl⟩
theorem jL (h:cQ Pg T N ents G ops rf o n fp e (VM.get M) e1 m1) (he: ∀t∈o.looksAt ops,e t=e' t) (ha: ∀c,c∈fp∨c=n→VM.get M2 c=VM.get M c) :
  ∃r,e1=kE o.dst r e∧(∃M2',cQ Pg T N ents G ops rf o n fp e' (VM.get M2) (kE o.dst r e') (VM.get M2')∧∀c,c∈fp∨c=n→VM.get M2' c=m1 c):=by
 obtain⟨r,hd,rfl,h⟩:=h
 refine⟨r,rfl,?_⟩
 cases rf with
 | false=>
  obtain⟨δ,h1,rfl,rfl⟩:=h
  have hf:=wa h1
  refine⟨δ.app n M2,⟨r,hd,rfl,δ,Hs (fun c hc=>ha c (.inl (by rw [oI he];exact hc))) (sZ he h1),Dl.get_app _ _ _,(oI he)⟩,fun c hc=>?_⟩
  rw [Dl.get_app]
  exact Kw hf ha hc
 | true=>
  obtain⟨⟨M2',p1,p2⟩,p3⟩:=zI h (M2:=M2) fun c hc=>ha c (.inl hc)
  exact⟨M2',⟨r,hd,rfl,Ky he p1⟩,fun c hc=>p2 c (ha c hc)⟩
theorem eK (h:cQ Pg T N ents G ops rf o n fp e (VM.get M) e1 m1) {c:Nat} (h1:c ∉ fp) (h2:c≠n):m1 c=VM.get M c:=by
 obtain⟨r,hd,rfl,h⟩:=h;cases rf with
 | false=>
  obtain⟨δ,h3,rfl,rfl⟩:=h;exact Hq (wa h3) h1 h2
 | true=>exact (zI h (M2:=M) fun _ _=>rfl).2 c h1 h2
theorem xG (h:cQ Pg T N ents G ops rf o n fp e (VM.get M) e1 m1): ∃M',VM.get M'=m1:=by
 obtain⟨r,hd,rfl,h⟩:=h;cases rf with
 | false=>obtain ⟨δ,_,rfl,_⟩:=h;exact⟨δ.app n M,Dl.get_app _ _ _⟩
 | true=>
  obtain⟨b,h1,h2,h3⟩:=h;cases b with
  | false=>exact ⟨M,(h3 rfl).2.symm⟩
  | true=>
   have h:=h2 rfl;unfold vG at h;split at h
   ·split at h
    ·unfold eJ rd at h;split at h
     ·obtain⟨vs,_,h⟩:=lG h;split at h
      ·obtain⟨_,M0,_,args,M0',n0,res,M1,n1,_,σ,bs,_,_,_,_,_,_,_,hm⟩:=h;exact⟨_,hm⟩
      ·exact h.elim
     ·exact h.elim
    ·exact h.elim
   ·exact h.elim
def Kz (a b:List Nat):Bool:=a.all fun x=>b.all fun y=> !a₆ x y
theorem Hv {a b:List Nat} (h:Kz a b=true): ∀c,c∈a→c ∉ b:=by
 intro c ha hb;unfold Kz at h;rw [a₇] at h;have:=h c ha;rw [a₇] at this;simpa using this c hb
theorem BV (h1:cQ Pg T N ents G ops rx x i fx e (VM.get M) e1 m1) (h2:cQ Pg T N ents G ops ry y j fy e1 m1 e2 m2) (ha:x.apart ops y=true) (hd:Kz (i :: fx) (j :: fy)=true) :
  ∃e' m',cQ Pg T N ents G ops ry y j fy e (VM.get M) e' m'∧cQ Pg T N ents G ops rx x i fx e' m' e2 m2:=by
 obtain⟨p1,p2,p3⟩:=Oper.apart_spec ha
 have hdis:=Hv hd
 have cy: ∀{c},(c∈fx∨c=i)→c ∉ fy∧c≠j:=fun {c} hc=>by
  have:=hdis c (by rcases hc with h | h <;> simp [h])
  simp only [b₂,not_or] at this
  exact⟨this.2,this.1⟩
 have cx: ∀{c},(c∈fy∨c=j)→c ∉ fx∧c≠i:=fun {c} hc=>by
  refine⟨fun h=>?_,fun h=>?_⟩
  ·obtain⟨q1,q2⟩:=cy (.inl h)
   exact hc.elim q1 q2
  ·obtain⟨q1,q2⟩:=cy (.inr h)
   exact hc.elim q1 q2
 obtain⟨M1,rfl⟩:=xG h1
 obtain⟨rvx,hdx,he1,h1b⟩:=h1
 have h1':cQ Pg T N ents G ops rx x i fx e (VM.get M) e1 (VM.get M1):=⟨rvx,hdx,he1,h1b⟩
 subst he1
 obtain⟨rvy,rfl,M',q1,q2⟩:=jL (e':=e) (M2:=M) h2 (gN p1) fun c hc=>(eK h1' (cx hc).1 (cx hc).2).symm
 obtain⟨rvx',hx',M'',q3,q4⟩:=jL (e':=kE y.dst rvy e) (M2:=M') h1' (fun t ht=>(gN p3 t ht).symm) fun c hc=>eK q1 (cy hc).1 (cy hc).2
 have hput:=mL (e:=e) (d:=y.dst) (d':=x.dst) (r:=rvy) (r':=rvx) fun t h h'=>p2 t h' h
 refine⟨_,_,q1,?_⟩
 have hm:VM.get M''=m2:=by
  funext c
  by_cases c1:c∈fx∨c=i
  ·rw [q4 c c1,eK h2 (cy c1).1 (cy c1).2]
  ·have c1':c ∉ fx∧c≠i:=⟨fun h=>c1 (.inl h),fun h=>c1 (.inr h)⟩
   rw [eK q3 c1'.1 c1'.2]
   by_cases c2:c∈fy∨c=j
   ·exact q2 c c2
   ·have c2':c ∉ fy∧c≠j:=⟨fun h=>c2 (.inl h),fun h=>c2 (.inr h)⟩
    rw [eK q1 c2'.1 c2'.2,eK h2 c2'.1 c2'.2,eK h1' c1'.1 c1'.2]
 rw [hm] at q3
 obtain⟨r3,hd3,he3,hb3⟩:=q3
 refine⟨r3,hd3,?_,hb3⟩
 rw [hput]
 rw [← he3]
 cases hxd:x.dst with
 | none=>rfl
 | some d=>
  rw [hxd] at hx'
  have:rvx=rvx':=by
   have:=congrFun hx' d
   simpa [kE,aN] using this
  rw [this]
theorem mN (hk:pK y=0) (h:cQ Pg T N ents G ops false y j fy e m e2 m2):m2=m∧∀m',cQ Pg T N ents G ops false y j fy e m' e2 m':=by
 obtain⟨r,hd,rfl,δ,h3,rfl,hfp⟩:=h;have ho:=sY h3;rw [hk] at ho;obtain rfl:δ= .none:=ho;exact⟨rfl,fun m'=>⟨r,hd,rfl, .none,gA (by rw [hk];rfl) h3,rfl,hfp⟩⟩
theorem BX (h1:cQ Pg T N ents G ops rx x i fx e (VM.get M) e1 m1) (h2:cQ Pg T N ents G ops false y j fy e1 m1 e2 m2) (ha:x.apart ops y=true) (hk:pK y=0) :
  ∃e' m',cQ Pg T N ents G ops false y j fy e (VM.get M) e' m'∧cQ Pg T N ents G ops rx x i fx e' m' e2 m2:=by
 obtain⟨p1,p2,p3⟩:=Oper.apart_spec ha
 obtain⟨rfl,hp⟩:=mN hk h2
 obtain⟨rvx,hdx,he1,h1b⟩:=h1
 have h1':cQ Pg T N ents G ops rx x i fx e (VM.get M) e1 m2:=⟨rvx,hdx,he1,h1b⟩
 subst he1
 obtain⟨rvy,rfl,M',q1,_⟩:=jL (e':=e) (M2:=M) (hp (VM.get M)) (gN p1) fun _ _=>rfl
 obtain⟨hM',_⟩:=mN hk q1
 obtain⟨rvx',hx',M'',q3,q4⟩:=jL (e':=kE y.dst rvy e) (M2:=M) h1' (fun t ht=>(gN p3 t ht).symm) fun _ _=>rfl
 have hput:=mL (e:=e) (d:=y.dst) (d':=x.dst) (r:=rvy) (r':=rvx) fun t h h'=>p2 t h' h
 have hm:VM.get M''=m2:=by
  funext c
  by_cases c1:c∈fx∨c=i
  ·exact q4 c c1
  ·have c1':c ∉ fx∧c≠i:=⟨fun h=>c1 (.inl h),fun h=>c1 (.inr h)⟩
   rw [eK q3 c1'.1 c1'.2,eK h1' c1'.1 c1'.2]
 rw [hM'] at q1
 refine⟨_,_,q1,?_⟩
 rw [hm] at q3
 obtain⟨r3,hd3,he3,hb3⟩:=q3
 refine⟨r3,hd3,?_,hb3⟩
 rw [hput,← he3]
 cases hxd:x.dst with
 | none=>rfl
 | some d=>
  rw [hxd] at hx'
  have:rvx=rvx':=by
   have:=congrFun hx' d
   simpa [kE,aN] using this
  rw [this]
theorem BY (h1:cQ Pg T N ents G ops false x i fx e (VM.get M) e1 m1) (h2:cQ Pg T N ents G ops ry y j fy e1 m1 e2 m2) (ha:x.apart ops y=true) (hk:pK x=0) :
  ∃e' m',cQ Pg T N ents G ops ry y j fy e (VM.get M) e' m'∧cQ Pg T N ents G ops false x i fx e' m' e2 m2:=by
 obtain⟨p1,p2,p3⟩:=Oper.apart_spec ha
 obtain⟨rfl,hp⟩:=mN hk h1
 obtain⟨rvx,hdx,he1,h1b⟩:=h1
 have h1':cQ Pg T N ents G ops false x i fx e (VM.get M) e1 (VM.get M):=⟨rvx,hdx,he1,h1b⟩
 subst he1
 obtain⟨rvy,rfl,M',q1,q2⟩:=jL (e':=e) (M2:=M) h2 (gN p1) fun _ _=>rfl
 obtain⟨rvx',hx',M'',q3,_⟩:=jL (e':=kE y.dst rvy e) (M2:=M) h1' (fun t ht=>(gN p3 t ht).symm) fun _ _=>rfl
 obtain⟨hM'',q5⟩:=mN hk q3
 have hput:=mL (e:=e) (d:=y.dst) (d':=x.dst) (r:=rvy) (r':=rvx) fun t h h'=>p2 t h' h
 have hm:VM.get M'=m2:=by
  funext c
  by_cases c1:c∈fy∨c=j
  ·exact q2 c c1
  ·have c1':c ∉ fy∧c≠j:=⟨fun h=>c1 (.inl h),fun h=>c1 (.inr h)⟩
   rw [eK q1 c1'.1 c1'.2,eK h2 c1'.1 c1'.2]
 rw [hm] at q1
 refine⟨_,_,q1,?_⟩
 obtain⟨r3,hd3,he3,hb3⟩:=q5 m2
 refine⟨r3,hd3,?_,hb3⟩
 rw [hput,← he3]
 cases hxd:x.dst with
 | none=>rfl
 | some d=>
  rw [hxd] at hx'
  have:rvx=rvx':=by
   have:=congrFun hx' d
   simpa [kE,aN] using this
  rw [this]
end
end
section
structure jM (N:Nat) (w0:World) (ex0:EY) (P0:bC) (e:Nat→Option MV) (m:FM) (F:Nat→Prop) (a:Act) (w:World):Prop where
 ex: ∃P adr,aQ w P adr m∧fH w P adr e a∧(∀c,F c→adr c=none)∧iE w0 ex0 P0 w P adr∧(∀b o,P b o→P0 b o∨w0.heap.size≤b∨ex0.ex b)
 fresh: ∀c,F c→m c=none
 ge: ∀c,F c→ex0.n0≤c
 since:bl ex0.ex w0 w
 defers:a.defers= []
 size:a.tmps.size=N
section
variable {Pg:Program} {T:bf} {N:Nat} {ents:List FuncId} {G:GS} {w0 w w':World} {ex0:EY} {P0 P:bC} {adr:dV} {e e':Nat→Option MV} {m m':FM} {n:Nat} {F F':Nat→Prop} {a:Act} {r:MV} {u:Value} {δ:Dl} {ops:Array Oper} {o:Oper}
theorem ow.toS (h:ow N w0 ex0 P0 e m n a w):jM N w0 ex0 P0 e m (n≤·) a w:=⟨h.ex,h.fresh,fun _ hc=>c₂ h.ge hc,h.since,h.defers,h.size⟩
theorem jM.toSim (h:jM N w0 ex0 P0 e m F a w) (hn: ∀c,n≤c→F c):ow N w0 ex0 P0 e m n a w:=by
 obtain⟨P,adr,h1,h2,h3,h4,h5⟩:=h.ex;exact⟨⟨P,adr,h1,h2,fun c hc=>h3 c (hn c hc),h4,h5⟩,fun c hc=>h.fresh c (hn c hc),h.ge n (hn n (c₅ _)),h.since,h.defers,h.size⟩
theorem KA (hS:jD Pg T ents G w0 ex0) (h:kD Pg T ents G o e m n r δ) (hI:aQ w P adr m) (hn:adr n=none) (hf:m n=none) (hE:fH w P adr e a) (hs:bl ex0.ex w0 w)
  {next:Act→World→Prop} {Q:Exit→Act→World→Prop} (hK: ∀u w',bu w P adr m n r δ u w'→next (a.put o.dst u) w'):o.wp Pg a w next Q:=by
 have plain:(im Pg T e m n o).runP (fun x=>x=(r,δ))→o.wp Pg a w next Q:=by
  intro h
  obtain⟨r',δ',hk,hr⟩:=Hf hS.seat.tab hI hn hf hE h
  injection hk with hk1 hk2
  subst hk1;subst hk2
  unfold Oper.wp
  rcases hr with ⟨u,w',h1,h2⟩ | ⟨w',h1,h2⟩
  ·rw [h1];exact hK u w' h2
  ·rw [h1];exact hK undef w' h2
 obtain⟨dst,op,ty,pos,after,guard⟩:=o
 cases op with
 | call c=>
  obtain⟨callee,args,ats⟩:=c
  cases callee with
  | builtin b=>exact plain h
  | invoke r n=>exact plain h
  | value f=>
   replace h:(fU e m f args.toList).runP fun x=>ents.contains x.1=true∧aD Pg G x.1 x.2.1 r∧δ= .bump x.2.2∧∀c∈x.2.2,m c.1≠none:=h
   unfold fU at h
   obtain⟨pf,h,hpf⟩:=bz hE h
   obtain⟨ps,h,hps⟩:=iH hE h
   cases pf with
   | fn f0 caps=>
    replace h:=aX.bind_runP.1 h
    generalize hu:a.eval f=uf at hpf
    cases hpf with
    | val cs hfn=>
     cases hfn with
     | fn parts hpl hpr=>
      have hall:=hps.app (cB.of_parts hpl hpr)
      obtain⟨l',bs,h,P',h1,h2,h3,h4⟩:=pT h hall hI
      obtain⟨hc,hsem,rfl,_⟩:=h
      replace hc:ents.contains f0=true:=hc
      replace hsem:aD Pg G f0 l' r:=hsem
      have hrun:(execOp a.eval ⟨dst, .call ⟨.value f,args,ats⟩,ty,pos,after,guard⟩).run Pg w= .ok (.enter f0 (args.toList.map a.eval ++ b₇ valM caps parts).toArray) w:=by
       have he:=hS.seat.enters f0 (by simpa using hc) (args.toList.map a.eval ++ b₇ valM caps parts).toArray w
       rw [← he]
       have hmap:args.map a.eval=(args.toList.map a.eval).toArray:=jn _ _
       simp [execOp,resolve,hu,valM,MV.isAgg,Deferred.ofValue,invoke,hmap]
      unfold Oper.wp
      rw [hrun]
      refine(hsem w P' _ (hS.good w hs) h1.prot h4).mono ?_
      rintro e w' ⟨v,rfl,h5,h6⟩
      refine hK v w' ⟨gM w w' P',adr,?_,by exact h1.below h6,h2.trans (bg.below h1.prot h6),fun _ _=>rfl,fun g hg=>(by rw [hn] at hg;cases hg),(bl.of_below h6).weak fun _ e=>e.elim,fun b o hb=>?_⟩
      ·exact h5.keep ⟨fun _ _ h=>h,fun _ _ _=>rfl,fun _ _ h=>(nomatch h),fun _ _ _ _ h=>nomatch h⟩
      ·rcases hb with hb | hb
       ·rcases h3 b o hb with hb | hb
        ·exact .inl hb
        ·exact .inr (.inr hb)
       ·exact .inr (.inl hb.1)
   | _=>exact h.elim
 | _=>exact plain h
theorem BZ: ∀{l:List (Nat×Nat)} {m:FM} {c:Nat},m c=none→cJ m l c=none:=by
 intro l m c h;rw [bumpF_get,h];rfl
theorem wg {c:Nat} (h:m c=none) (hc:c≠n):δ.appF n m c=none:=by
 cases δ with
 | none=>exact h
 | new b=>show aN _ _ _ c=none;rw [aK _ _ hc];exact h
 | upd c' l=>
  show(match m c' with | some b=>aN m c' { b with l:=l } | none=>m) c=none
  cases hb:m c' with
  | none=>exact h
  | some b=>
   show aN _ c' _ c=none
   rw [aK]
   ·exact h
   ·rintro rfl;rw [h] at hb;cases hb
 | mv c' b=>
  show aN _ _ _ c=none
  rw [aK _ _ hc];unfold iF;split
  ·rfl
  ·exact h
 | bump l=>exact BZ h
theorem jM.post (hs:jM N w0 ex0 P0 e m F a w) (_hI:aQ w P adr m) (hE:fH w P adr e a) (hn: ∀c,F c→adr c=none) (hg:iE w0 ex0 P0 w P adr) (hp: ∀b o,P b o→P0 b o∨w0.heap.size≤b∨ex0.ex b)
  (hpo:bu w P adr m n r δ u w') {dst:Option Tmp} (hd: ∀d,dst=some d→d < N) (hFn:F n) (hF: ∀c,F' c→F c∧c≠n):jM N w0 ex0 P0 (kE dst r e) (δ.appF n m) F' (a.put dst u) w':=by
 obtain⟨P',adr',h1,h2,h3,h4,h5,h6,h7⟩:=hpo
 have hE':fH w' P' adr' e a:=fun t v ht=>by
  obtain⟨u,e1,e2⟩:=hE t v ht
  exact⟨u,e1,e2.keep h3⟩
 have hsize:=hs.since.size
 have common: ∀{e':Nat→Option MV} {a':Act},fH w' P' adr' e' a'→a'.defers= [] →a'.tmps.size=N→jM N w0 ex0 P0 e' (δ.appF n m) F' a' w':=by
  intro e' a' e1 e2 e3
  refine⟨⟨P',adr',h2,e1,fun c hc=>?_,⟨fun c g hc=>?_,fun c hc=>(h4 c (by have:=hs.ge n hFn;omega)).trans (hg.old c hc),hg.keep.trans h3⟩,fun b o ho=>?_⟩,fun c hc=>?_,fun c hc=>hs.ge c (hF c hc).1,?_,e2,e3⟩
  ·rw [h4 c (hF c hc).2];exact hn c (hF c hc).1
  ·by_cases e:c=n
   ·subst e
    rcases h5 g hc with h | ⟨c',h⟩
    ·exact .inl (c₂ hsize h)
    ·exact hg.in_ c' g h
   ·rw [h4 c e] at hc;exact hg.in_ c g hc
  ·rcases h7 b o ho with h | h | ⟨c',h⟩
   ·exact hp b o h
   ·exact .inr (.inl (c₂ hsize h))
   ·rcases hg.in_ c' b h with h | h
    ·exact .inr (.inl h)
    ·exact .inr (.inr h)
  ·exact wg (hs.fresh c (hF c hc).1) (hF c hc).2
  ·exact⟨h6.os.trans hs.since.os,h6.tape.trans hs.since.tape,h6.output.trans hs.since.output,c₂ hsize h6.size,fun b hb hne=>(h6.block b (Nat.lt_of_lt_of_le hb hsize) (fun⟨c,hc⟩=>by
    rcases hg.in_ c b hc with h | h
    ·omega
    ·exact hne h)).trans (hs.since.block b hb hne)⟩
 cases dst with
 | none=>exact common hE' hs.defers hs.size
 | some d=>
  have hd':=hd d rfl
  refine common ?_ hs.defers (by simp [Act.put,hs.size])
  intro t v ht
  simp only [Act.put,Array.getElem?_setIfInBounds]
  replace ht:aN e d r t=some v:=ht
  unfold aN at ht
  split at ht
  ·rename_i e
   subst e
   injection ht with ht
   subst ht
   exact⟨u,by simp [hs.size,hd'],h1⟩
  ·rename_i hne
   rw [if_neg fun h=>hne h.symm]
   exact hE' t v ht
theorem jM.put (hd:a.defers= []) (hz:a.tmps.size=N) {w':World} {P':bC} {adr':dV} (hI:aQ w' P' adr' m') (hE:fH w' P' adr' e a) (hr:aI w' P' adr' r u) (h1: ∀c,F' c→adr' c=none) (h2:iE w0 ex0 P0 w' P' adr')
  (h3: ∀b o,P' b o→P0 b o∨w0.heap.size≤b∨ex0.ex b) (h4: ∀c,F' c→m' c=none) (h5: ∀c,F' c→ex0.n0≤c) (h6:bl ex0.ex w0 w') {dst:Option Tmp} (hdl: ∀d,dst=some d→d < N):jM N w0 ex0 P0 (kE dst r e) m' F' (a.put dst u) w':=by
 cases dst with
 | none=>exact ⟨⟨P',adr',hI,hE,h1,h2,h3⟩,h4,h5,h6,hd,hz⟩
 | some d=>
  have hd':=hdl d rfl
  refine⟨⟨P',adr',hI,fun t v ht=>?_,h1,h2,h3⟩,h4,h5,h6,hd,by simp [Act.put,hz]⟩
  simp only [Act.put,Array.getElem?_setIfInBounds]
  replace ht:aN e d r t=some v:=ht
  unfold aN at ht
  split at ht
  ·rename_i e
   subst e
   injection ht with ht
   subst ht
   exact⟨u,by simp [hz,hd'],hr⟩
  ·rename_i hne
   rw [if_neg fun h=>hne h.symm]
   exact hE t v ht
theorem Fk (hS:jD Pg T ents G w0 ex0) {rf:Bool} {fp:List Nat} {next:Act→World→Prop} {Q:Exit→Act→World→Prop} (hs:jM N w0 ex0 P0 e m F a w) (hn:F n) (hn2:n + 1∈fp→F (n + 1)) (hF0: ∀c,F' c→F c∧¬ zj n fp c)
  (h:cQ Pg T N ents G ops rf o n fp e m e' m') (hk: ∀a w,jM N w0 ex0 P0 e' m' F' a w→next a w) :
  if Region.wanted o (yielded ops a.tmps) then o.wp Pg a w next Q∨(o.asks Pg a w∧LetsOut Q) else next (a.put o.dst undef) w:=by
 obtain⟨r,hd,rfl,h⟩:=h
 have hF: ∀c,F' c→F c∧c≠n:=fun c hc=>⟨(hF0 c hc).1,fun e=>(hF0 c hc).2 (.inl e)⟩
 obtain⟨P,adr,hI,hE,ha1,ha2,ha3⟩:=hs.ex
 have wanted: ∀{b},BO ops o e=some b→Region.wanted o (yielded ops a.tmps)=b:=by
  intro b hb
  unfold BO at hb
  split at hb
  ·rename_i hg
   injection hb with hb
   simp [Region.wanted,hg,← hb]
  ·rename_i j want hg
   split at hb
   ·cases hb
   ·rename_i s hj
    split at hb
    ·rename_i t ht
     injection hb with hb
     obtain⟨v,hv1,hv2⟩:=hE s _ ht
     have hv:=hv2.bool_
     subst hv
     have hy:yielded ops a.tmps j=some t:=by simp [yielded,hj,hv1]
     simp only [Region.wanted,hg,hy,← hb]
     cases t <;> cases want <;> rfl
    ·rename_i ht
     injection hb with hb
     obtain⟨v,hv1,hv2⟩:=hE s _ ht
     have hv:v=undef:=hv2.undef_
     subst hv
     have hy:yielded ops a.tmps j=none:=by simp [yielded,hj,hv1,undef]
     simp [Region.wanted,hg,hy,← hb]
    ·cases hb
 cases rf with
 | false=>
  obtain⟨δ,⟨b,hb,h1,h2⟩,rfl,_⟩:=h
  rw [wanted hb]
  cases b with
  | true=>
   rw [if_pos rfl]
   refine .inl (KA hS (h1 rfl) hI (ha1 n hn) (hs.fresh n hn) hE hs.since fun u w' hp=>hk _ _ ?_)
   exact hs.post hI hE ha1 ha2 ha3 hp hd hn hF
  | false=>
   rw [if_neg sm]
   obtain⟨rfl,rfl⟩:=h2 rfl
   exact hk _ _ (hs.post (δ:= .none) hI hE ha1 ha2 ha3 (bu.pure hI (ha1 n hn) .undef) hd hn hF)
 | true=>
  obtain⟨b,hb,h1,h2⟩:=h
  rw [wanted hb]
  cases b with
  | false=>
   rw [if_neg sm]
   obtain⟨rfl,rfl⟩:=h2 rfl
   exact hk _ _ (hs.post (δ:= .none) hI hE ha1 ha2 ha3 (bu.pure hI (ha1 n hn) .undef) hd hn hF)
  | true=>
   rw [if_pos rfl]
   have h:=h1 rfl
   obtain⟨dst,op,ty,pos,after,guard⟩:=o
   unfold vG at h
   cases op with
   | call c=>
    obtain⟨callee,args,ats⟩:=c
    cases callee with
    | value f=>
     replace h:(eJ e f args.toList).runP fun x=>ents.contains x.1=true∧∃M,VM.get M=m∧lE Pg G M n x.1 x.2 fp fun r' M'=>r'=r∧VM.get M'=m':=h
     unfold eJ at h
     obtain⟨pf,h,hpf⟩:=bz hE h
     obtain⟨ps,h,hps⟩:=iH hE h
     cases pf with
     | fn f0 caps=>
      generalize hu:a.eval f=uf at hpf
      cases hpf with
      | val cs hfn=>
       cases hfn with
       | fn parts hpl hpr=>
        have hall:=hps.app (cB.of_parts hpl hpr)
        replace h:ents.contains f0=true∧∃M,VM.get M=m∧lE Pg G M n f0 (ps ++ caps) fp fun r' M'=>r'=r∧VM.get M'=m':=h
        obtain⟨hc,M,rfl,hz⟩:=h
        have hrun:(execOp a.eval ⟨dst, .call ⟨.value f,args,ats⟩,ty,pos,after,guard⟩).run Pg w= .ok (.enter f0 (args.toList.map a.eval ++ b₇ valM caps parts).toArray) w:=by
         have he:=hS.seat.enters f0 (by simpa using hc) (args.toList.map a.eval ++ b₇ valM caps parts).toArray w
         rw [← he]
         have hmap:args.map a.eval=(args.toList.map a.eval).toArray:=jn _ _
         simp [execOp,resolve,hu,valM,MV.isAgg,Deferred.ofValue,invoke,hmap]
        refine .inl ?_
        unfold Oper.wp
        rw [hrun]
        refine(E4 hS hz hs.since (hs.fresh n hn) (hs.ge n hn) (ha1 n hn) (fun h=>hs.fresh _ (hn2 h)) (fun h=>ha1 _ (hn2 h)) hI hE ha2 ha3 hall).mono ?_
        rintro e w' ⟨v,rfl,r',M',⟨rfl,rfl⟩,P',adr1,q1,q2,q3,q8,q4,q5,q6,q7⟩
        exact hk _ _ (jM.put hs.defers hs.size q1 q2 q3 (fun c hc=>(q8 c (hF0 c hc).2).trans (ha1 c (hF c hc).1)) q4 q5 (fun c hc=>q6 c (hF0 c hc).2 (hs.fresh c (hF c hc).1)) (fun c hc=>hs.ge c (hF c hc).1) q7 hd)
     | _=>exact h.elim
    | _=>exact h.elim
   | _=>exact h.elim
end
end
section
section
variable (Pg:Program) (T:bf) (N:Nat) (ents:List FuncId) (G:GS)
structure pL where
 k:Nat
 n:Nat
 rf:Bool
 fp:List Nat
def Hw (ops:Array Oper):List pL→(Nat→Option MV)→FM→(Nat→Option MV)→FM→Prop
 | [],e,m,e',m'=>e=e'∧m=m'
 | x :: L,e,m,e',m'=> ∃o e1 m1,ops[x.k]? =some o∧cQ Pg T N ents G ops x.rf o x.n x.fp e m e1 m1∧Hw ops L e1 m1 e' m'
end
def Hy (x y:pL) (a b:Oper):Bool:=(!x.rf && !y.rf && PL (pK a) (pK b)) || (Kz (x.n :: x.fp) (y.n :: y.fp) || (!y.rf && a₆ (pK b) 0 || !x.rf && a₆ (pK a) 0))
def N6 (ops:Array Oper) (x y:pL):Bool:=match ops[x.k]?,ops[y.k]? with
 | some a,some b=>((a.apart ops b && Hy x y a b) || sJ ops 8 y.k x.k) && a.after.toList.all (fun e=> !Region.binds .any e || !a₆ e.on y.k) && !a₆ x.k y.k
 | _,_=>false
def N7 (ops:Array Oper) (x:Nat):Bool:=match ops[x]? with
 | some a=>a.after.toList.all fun e=> !Region.binds .any e || (a₄ e.on ops.size && !a₆ e.on x)
 | none=>false
def KC (ops:Array Oper):List pL→Bool
 | [] =>true
 | x :: L=>N7 ops x.k && L.all (fun y=>N6 ops x y) && KC ops L
def Dx (L:List pL) (n:Nat):Bool:=L.all fun x=> !x.fp.any (a₆ (x.n + 1)) || (a₄ (x.n + 1) n && L.all fun y=> !a₆ y.n (x.n + 1))
def fV (ops:Array Oper) (L:List pL) (n:Nat):Bool:=KC ops L && (List.range ops.size).all (fun k=>(L.map (·.k)).contains k) && c₈ L.length ops.size && Dx L n
def pL.own (x:pL) (c:Nat):Prop:=zj x.n x.fp c
def Dj (x y:pL):Prop:= ∀c,x.own c→¬ y.own c
theorem p8 {L:List pL} {n:Nat} (h:Dx L n=true) {x:pL} (hx:x∈L) (h2:x.n + 1∈x.fp):x.n + 1 < n∧∀y∈L,y.n≠x.n + 1:=by
 unfold Dx at h;rw [a₇] at h;have:=h x hx;rw [b₃] at this;rcases this with h3 | h3
 ·have:x.fp.any (a₆ (x.n + 1))=true:=c₉.2 ⟨_,h2,sm⟩;rw [this] at h3;cases h3
 ·rw [a₀,a₇] at h3;refine⟨by simpa [c₆] using h3.1,fun y hy e=>?_⟩;have:=h3.2 y hy;rw [e] at this;simp at this
theorem N8 {L:List pL} {n:Nat} (h:Dx L n=true) (hd:(L.map (·.n)).Nodup):L.Pairwise Dj:=by
 have key: ∀{x y:pL},x∈L→y∈L→x.n≠y.n→Dj x y:=by
  intro x y hx hy hne c h1 h2;rcases h1 with h1 | ⟨h1,h4⟩ <;> rcases h2 with h2 | ⟨h2,h3⟩
  ·exact hne om
  ·exact(p8 h hy (h2▸h3)).2 x hx om
  ·exact(p8 h hx (h1▸h4)).2 y hy om
  ·exact hne om
 have hp:L.Pairwise fun x y=>x.n≠y.n:=List.pairwise_map.1 hd
 exact List.Pairwise.imp_of_mem (fun hx hy hne=>key hx hy hne) hp
theorem wh {ops:Array Oper}: ∀{L:List pL},KC ops L=true→L.Pairwise (fun x y=>N6 ops x y=true)∧∀x∈L,N7 ops x.k=true
 | [],_=>⟨.nil,fun _ h=>nomatch h⟩
 | x :: L,h=>by
  simp only [KC,a₀,a₇] at h
  obtain⟨h1,h2⟩:=wh h.2
  refine⟨.cons h.1.2 h1,fun y hy=>?_⟩
  rcases b₂.1 hy with rfl | hy
  ·exact h.1.1
  ·exact h2 y hy
section
variable {Pg:Program} {T:bf} {N:Nat} {ents:List FuncId} {G:GS} {ops:Array Oper} {e e':Nat→Option MV} {m m':FM} {listed:Array Bool}
theorem Fl {x y:pL} {a b:Oper} {e1 e2:Nat→Option MV} {m1 m2:FM} (hm: ∃M,VM.get M=m) (h1:cQ Pg T N ents G ops x.rf a x.n x.fp e m e1 m1) (h2:cQ Pg T N ents G ops y.rf b y.n y.fp e1 m1 e2 m2) (ha:a.apart ops b=true) (hc:Hy x y a b=true) (hij:x.n≠y.n) (hi:m x.n=none) (hj:m y.n=none) :
  ∃e' m',cQ Pg T N ents G ops y.rf b y.n y.fp e m e' m'∧cQ Pg T N ents G ops x.rf a x.n x.fp e' m' e2 m2:=by
 obtain⟨M,rfl⟩:=hm
 unfold Hy at hc
 rw [b₃] at hc
 rcases hc with hc | hc
 ·simp only [a₀,b₁] at hc
  obtain⟨⟨q1,q2⟩,q3⟩:=hc
  rw [q1] at h1 ⊢
  rw [q2] at h2 ⊢
  exact BU h1 h2 ha q3 hij hi hj
 ·rw [b₃] at hc
  rcases hc with hc | hc
  ·exact BV h1 h2 ha hc
  ·rw [b₃] at hc
   rcases hc with hc | hc
   ·simp only [a₀,b₁] at hc
    obtain⟨q1,q2⟩:=hc
    rw [q1] at h2 ⊢
    exact BX h1 h2 ha (a₉ q2)
   ·simp only [a₀,b₁] at hc
    obtain⟨q1,q2⟩:=hc
    rw [q1] at h1 ⊢
    exact BY h1 h2 ha (a₉ q2)
theorem td {o:Oper} {rf:Bool} {fp:List Nat} {n c:Nat} (hm0: ∃M,VM.get M=m) (h:cQ Pg T N ents G ops rf o n fp e m e' m') (hm:m c=none) (hc0: ¬ zj n fp c):m' c=none:=by
 have hc:c≠n:=fun e=>hc0 (.inl e)
 obtain⟨r,_,_,h⟩:=h;cases rf with
 | false=>obtain ⟨δ,_,rfl,_⟩:=h;exact wg hm hc
 | true=>
  obtain⟨M0,rfl⟩:=hm0;obtain⟨b,h1,h2,h3⟩:=h;cases b with
  | false=>rw [(h3 rfl).2];exact hm
  | true=>
   have h:=h2 rfl;unfold vG at h;split at h
   ·split at h
    ·unfold eJ rd at h;split at h
     ·obtain⟨vs,_,h⟩:=lG h;split at h
      ·obtain⟨_,M,hM,args,M0',n0,res,M1,n1,_,σ,bs,hL,hin,hk,htw,_,_,_,hm'⟩:=h;rw [← hm',get_app,xF fun z hz=>?_]
       ·cases hx:VM.get (iv (VM.bump M bs) σ) c with
        | none=>rfl
        | some b=>
         obtain⟨h4,_⟩:=lF σ _ c b hx;obtain⟨b',h5⟩:=oD h4;rw [hM,hm] at h5;cases h5
       ·cases hd:kA σ z.1 with
        | none=>exact fun h=>N5 hk htw hz hd (h▸hc0)
        | some d=>
        unfold gy;rw [hd];rintro rfl;obtain⟨b',hb'⟩:=fM hin z.1 d (eD hd);rw [hM,hm] at hb';cases hb'
      ·exact h.elim
     ·exact h.elim
    ·exact h.elim
   ·exact h.elim
theorem te: ∀{L1:List pL} {L2:List pL} {k:pL} {e:Nat→Option MV} {m:FM},(∃M,VM.get M=m)→Hw Pg T N ents G ops (L1 ++ k :: L2) e m e' m'→
  (∀x∈L1,∃a b,ops[x.k]? =some a∧ops[k.k]? =some b∧a.apart ops b=true∧Hy x k a b=true)→(∀x∈L1,Dj x k∧m x.n=none)→m k.n=none→L1.Pairwise Dj→
  ∃o e1 m1,ops[k.k]? =some o∧cQ Pg T N ents G ops k.rf o k.n k.fp e m e1 m1∧Hw Pg T N ents G ops (L1 ++ L2) e1 m1 e' m'
 | [],_,_,_,_,_,h,_,_,_,_=>h
 | x :: L1,L2,k,e,m,hv,h,hc,hn,hk,hd=>by
  obtain⟨o,e1,m1,h1,h2,h3⟩:=h
  obtain⟨hx1,hx2⟩:=hn x sm
  obtain⟨hd1,hd2⟩:=c₃.1 hd
  have no: ∀{y:pL},Dj x y→¬ zj x.n x.fp y.n:=fun {y} hy h=>hy y.n h (.inl rfl)
  have hv1: ∃M,VM.get M=m1:=by obtain⟨M,rfl⟩:=hv;exact xG h2
  obtain⟨o',e2,m2,h4,h5,h6⟩:=te hv1 h3 (fun y hy=>hc y (by simp [hy])) (fun y hy=>⟨(hn y (by simp [hy])).1,td hv h2 (hn y (by simp [hy])).2 (no (hd1 y hy))⟩) (td hv h2 hk (no hx1)) hd2
  obtain⟨a,b,p1,p2,p3,p4⟩:=hc x sm
  rw [h1] at p1;injection p1 with p1;subst p1
  rw [h4] at p2;injection p2 with p2;subst p2
  obtain⟨e3,m3,q1,q2⟩:=Fl hv h2 h5 p3 p4 (fun e=>hx1 x.n (.inl rfl) (.inl e)) hx2 hk
  exact⟨o',e3,m3,h4,q1,o,e2,m2,h1,q2,h6⟩
def Dy (ops:Array Oper) (listed:Array Bool):Prop:= ∀k o,ops[k]? =some o→listed.getD k false=true→∀e∈o.after.toList,Region.binds .any e=true→listed.getD e.on false=true
theorem qV (hc:Dy ops listed) {x:Nat} (hx:listed.getD x false=false): ∀(f y:Nat) (o:Oper),ops[y]? =some o→(∀e∈o.after.toList,Region.binds .any e=true→listed.getD e.on false=true)→sJ ops f y x=false
 | 0,_,_,_,_=>rfl
 | f + 1,y,o,h1,h2=>by
  unfold sJ
  rw [h1]
  show(o.after.toList.any _)=false
  rw [List.any_eq_false]
  intro e he
  cases hb:Region.binds .any e with
  | false=>simp
  | true=>
   have hl:=h2 e he hb
   have hne:a₆ e.on x=false:=by
    cases hh:a₆ e.on x with
    | false=>rfl
    | true=>rw [a₉ hh,hx] at hl;cases hl
   cases ho:ops[e.on]? with
   | none=>
    have:sJ ops f e.on x=false:=by
     cases f with
     | zero=>rfl
     | succ f=>unfold sJ;rw [ho]
    simp [hne,this]
   | some o'=>
    have:=qV hc hx f e.on o' ho (hc _ _ ho hl)
    simp [hne,this]
theorem zJ {l:Array Bool} {i k:Nat} {d:Bool} (hi:i < l.size):(l.setIfInBounds i true).getD k d=if i=k then true else l.getD k d:=by
 by_cases h:i=k
 ·subst h;simp [Array.getD,hi]
 ·simp [Array.getD_eq_getD_getElem?,h]
theorem wi {i:Nat} (h:i∈Region.ready .any ops listed):listed.getD i true=false∧∃o,ops[i]? =some o∧∀e∈o.after.toList,Region.binds .any e=true→listed.getD e.on false=true:=by
 simp only [Region.ready,e₁,e₅,a₀,b₁] at h;obtain⟨h1,h2,h3⟩:=h;have ho:ops[i]? =some ops[i] :=by simp [h1]
 refine⟨h2,ops[i],ho,fun e he hb=>?_⟩;rw [ho] at h3;simp only [e₃,d₈,Array.all_eq_true'] at h3;have:=h3 e (by simpa using he);simpa [hb] using this
theorem Hz {i:Nat} {o:Oper} (h1:listed.getD i true=false) (h2:ops[i]? =some o) (h3: ∀e∈o.after.toList,Region.binds .any e=true→listed.getD e.on false=true):i∈Region.ready .any ops listed:=by
 simp only [Region.ready,e₁,e₅,a₀,b₁];refine⟨(Array.getElem?_eq_some_iff.1 h2).1,h1,?_⟩;rw [h2];simp only [e₃,d₈,Array.all_eq_true'];intro e he;cases hb:Region.binds .any e with
 | false=>rfl
 | true=>simp [h3 e (by simpa using he) hb]
end
end
section
section
variable {Pg:Program} {T:bf} {N:Nat} {ents:List FuncId} {G:GS} {ops:Array Oper} {e':Nat→Option MV} {m':FM} {w0:World} {ex0:EY} {P0:bC} {Q:Exit→Act→World→Prop} {Z:Nat→Prop}
theorem rR {x y:pL} (h:N6 ops x y=true): ∃a b,ops[x.k]? =some a∧ops[y.k]? =some b∧((a.apart ops b=true∧Hy x y a b=true)∨sJ ops 8 y.k x.k=true)∧(∀e∈a.after.toList,Region.binds .any e=true→e.on≠y.k)∧x.k≠y.k:=by
 unfold N6 at h;split at h
 ·rename_i a b ha hb;simp only [a₀,b₃,a₇,b₁] at h;obtain⟨⟨h1,h2⟩,h3⟩:=h;refine⟨a,b,ha,hb,h1,fun e he hbd hh=>?_,fun hh=>?_⟩
  ·rcases h2 e he with h | h
   ·rw [hbd] at h;cases h
   ·rw [hh] at h;simp at h
  ·rw [hh] at h3;simp at h3
 ·cases h
theorem Dz {x:Nat} (h:N7 ops x=true): ∃a,ops[x]? =some a∧∀e∈a.after.toList,Region.binds .any e=true→e.on < ops.size∧e.on≠x:=by
 unfold N7 at h;split at h
 ·rename_i a ha;simp only [a₇,b₃,a₀,b₁] at h;refine⟨a,ha,fun e he hb=>?_⟩;rcases h e he with h | ⟨h1,h2⟩
  ·rw [hb] at h;cases h
  ·refine⟨by simpa [c₆] using h1,fun hh=>?_⟩;subst hh;simp at h2
 ·cases h
theorem zK {l:Array Bool} {k:Nat} {d d':Bool} (h:k < l.size):l.getD k d=l.getD k d':=by simp [Array.getD,h]
theorem MF (hS:jD Pg T ents G w0 ex0) (hQ: ∀a w,jM N w0 ex0 P0 e' m' Z a w→Q .normal a w): ∀(fuel:Nat) (L:List pL) {listed:Array Bool} {e:Nat→Option MV} {m:FM} {a:Act} {w:World},
  (∃M,VM.get M=m)→Hw Pg T N ents G ops L e m e' m'→L.Pairwise (fun x y=>N6 ops x y=true)→(∀x∈L,N7 ops x.k=true)→L.Pairwise Dj→(∀x∈L,∀c,x.own c→¬ Z c)→
  jM N w0 ex0 P0 e m (fun c=>(∃x∈L,x.own c)∨Z c) a w→(∀k,k < ops.size→(listed.getD k true=false↔k∈L.map (·.k)))→listed.size=ops.size→Dy ops listed→L.length≤fuel→wpAny Pg .any ops Q fuel listed a w:=by
 intro fuel
 induction fuel with
 | zero=>
  intro L listed e m a w hv hr hP hA hD hZ hs hl hsz hc hlen
  obtain rfl:L= [] :=List.length_eq_zero_iff.1 om
  obtain⟨rfl,rfl⟩:=hr
  refine wpAny_done (List.eq_nil_iff_forall_not_mem.2 fun i hi=>?_) (hQ a w (by simpa using hs)) 0
  obtain⟨h1,o,h2,_⟩:=wi hi
  exact absurd ((hl i (Array.getElem?_eq_some_iff.1 h2).1).1 h1) sm
 | succ fuel ih=>
  intro L listed e m a w hv hr hP hA hD hZ hs hl hsz hc hlen
  have hunl: ∀x∈L,listed.getD x.k true=false∧listed.getD x.k false=false:=by
   intro x hx
   obtain⟨o,ho,_⟩:=Dz (hA x hx)
   have hlt:=(Array.getElem?_eq_some_iff.1 ho).1
   have h1:=(hl x.k hlt).2 (List.mem_map_of_mem hx)
   exact⟨h1,by rw [zK (d':=true) om];exact h1⟩
  refine⟨fun h0=>?_,fun i hi=>?_⟩
  ·cases L with
   | nil=>
    obtain⟨rfl,rfl⟩:=hr
    exact hQ a w (by simpa using hs)
   | cons x L=>
    exfalso
    obtain⟨o,ho,h2⟩:=Dz (hA x sm)
    have:x.k∈Region.ready .any ops listed:=Hz (hunl x sm).1 ho fun ed he hb=>by
     obtain⟨h3,h4⟩:=h2 ed he hb
     rw [zK (d':=true) om]
     cases hh:listed.getD ed.on true with
     | true=>rfl
     | false=>
      exfalso
      have:=(hl ed.on h3).1 hh
      simp only [c₀,b₂] at this
      rcases this with h5 | h5
      ·exact h4 h5
      ·obtain⟨y,hy,hyk⟩:=b₆.1 h5
       obtain⟨a',b',p1,p2,p3,p4,p5⟩:=rR ((c₃.1 hP).1 y hy)
       rw [ho] at p1
       injection p1 with p1
       subst p1
       exact p4 ed he hb hyk.symm
    rw [h0] at this
    cases this
  ·obtain⟨h1,o,ho,hready⟩:=wi hi
   have hlt:=(Array.getElem?_eq_some_iff.1 ho).1
   have hmem:=(hl i hlt).1 h1
   obtain⟨k,hk,rfl⟩:=b₆.1 hmem
   obtain⟨L1,L2,rfl⟩:=List.append_of_mem hk
   have hP1:=b₈.1 hP
   have hD1:=b₈.1 hD
   have hD2:=c₃.1 hD1.2.1
   have hP2:=c₃.1 hP1.2.1
   have hne1: ∀x∈L1,Dj x k:=fun x hx=>hD1.2.2 x hx k sm
   have hne2: ∀x∈L2,Dj k x:=fun x hx=>hD2.1 x hx
   obtain⟨o',e1,m1,p1,p2,p3⟩:=te hv hr (fun x hx=>by
     obtain⟨a',b',q1,q2,q3,_⟩:=rR (hP1.2.2 x hx k sm)
     refine⟨a',b',q1,q2,?_⟩
     rcases q3 with q3 | q3
     ·exact q3
     ·rw [qV hc (hunl x (by simp [hx])).2 8 k.k o ho hready] at q3;cases q3)
    (fun x hx=>⟨hne1 x hx,hs.fresh _ (.inl ⟨x,by simp [hx], .inl rfl⟩)⟩) (hs.fresh _ (.inl ⟨k,sm, .inl rfl⟩)) hD1.1
   rw [ho] at p1
   injection p1 with p1
   subst p1
   have hv1: ∃M,VM.get M=m1:=by obtain⟨M,rfl⟩:=hv;exact xG p2
   unfold wpOp
   rw [ho]
   refine Fk (F':=fun c=>(∃x∈L1 ++ L2,x.own c)∨Z c) hS hs (.inl ⟨k,sm, .inl rfl⟩) (fun h=> .inl ⟨k,sm, .inr ⟨rfl,h⟩⟩) (fun c hc'=>?_) p2 fun a' w' hs'=>?_
   ·rcases hc' with ⟨x,hx,ho'⟩ | hc'
    ·rcases a₈.1 hx with hx | hx
     ·exact⟨.inl ⟨x,by simp [hx],ho'⟩,hne1 x hx c ho'⟩
     ·exact⟨.inl ⟨x,by simp [hx],ho'⟩,fun h=>hne2 x hx c h ho'⟩
    ·exact⟨.inr hc',fun hh=>hZ k hk c hh hc'⟩
   ·have hnk: ∀j,j∈(L1 ++ L2).map (·.k)→k.k≠j:=by
     intro j hj
     obtain⟨y,hy,rfl⟩:=b₆.1 hj
     rcases a₈.1 hy with hy | hy
     ·obtain⟨_,_,_,_,_,_,q⟩:=rR (hP1.2.2 y hy k sm);exact fun h=>q h.symm
     ·obtain⟨_,_,_,_,_,_,q⟩:=rR (hP2.1 y hy);exact q
    refine ih (L1 ++ L2) hv1 p3 ?_ (fun x hx=>hA x ?_) ?_ (fun x hx=>hZ x ?_) hs' (fun j hj=>?_) (by simpa using hsz) ?_ ?_
    ·exact b₈.2 ⟨hP1.1,hP2.2,fun x hx y hy=>hP1.2.2 x hx y (by simp only [b₂];exact .inr hy)⟩
    ·rcases a₈.1 hx with hx | hx <;> simp [hx]
    ·exact b₈.2 ⟨hD1.1,hD2.2,fun x hx y hy=>hD1.2.2 x hx y (by simp only [b₂];exact .inr hy)⟩
    ·rcases a₈.1 hx with hx | hx <;> simp [hx]
    ·rw [zJ om]
     by_cases hkj:k.k=j
     ·rw [if_pos hkj]
      exact⟨fun h=>(by cases h),fun h=>absurd hkj (hnk j h)⟩
     ·rw [if_neg hkj,hl j hj]
      simp only [List.map_append,c₀,a₈,b₂]
      constructor
      ·rintro(h | h | h)
       ·exact .inl h
       ·exact absurd h.symm hkj
       ·exact .inr h
      ·rintro(h | h)
       ·exact .inl h
       ·exact .inr (.inr h)
    ·intro j oj hj hjl ed he hb
     rw [zJ om] at hjl ⊢
     split
     ·rfl
     ·split at hjl
      ·rename_i hkj
       subst hkj
       rw [ho] at hj
       injection hj with hj
       subst hj
       exact hready ed he hb
      ·exact hc j oj hj hjl ed he hb
    ·simp only [b₄,b₀] at hlen ⊢
     omega
end
end
section
section
variable {Pg:Program} {T:bf} {N:Nat} {ents:List FuncId} {G:GS} {ops:Array Oper} {E:VE} {M:VM} {n:Nat} {o:Oper}
theorem B0 {e:Nat→Option MV} {m:FM} {f:Operand} {args:List Operand} {K:FuncId×List MV×List (Nat×Nat)→Prop} (h:(fU e m f args).runP K):(fU e m f args).runP fun x=>K x∧∀c∈x.2.2,m c.1≠none:=by
 unfold fU at h ⊢;unfold rd at h ⊢;split at h
 ·have key: ∀(az:List Operand) (k:List MV→aX (FuncId×List MV×List (Nat×Nat))) (K K':FuncId×List MV×List (Nat×Nat)→Prop),(∀vs,(k vs).runP K→(k vs).runP K')→(ln e az k).runP K→(ln e az k).runP K':=by
   intro az
   induction az with
   | nil=>intro k K K' hk h;exact hk _ h
   | cons x az ih=>
    intro k K K' hk h;unfold ln rd at h ⊢;split at h
    ·exact ih _ K K' (fun vs h=>hk _ h) h
    ·exact h.elim
  refine key _ _ _ _ (fun vs hk=>?_) h;split at hk
  ·exact cR (jI (eC.refl m) (aX.bind_runP.1 hk)) fun x hx=>⟨hx.1,hx.2⟩
  ·exact hk.elim
 ·exact h.elim
theorem zL {E2:VE} {K:MV→VM→Prop} (h:vw Pg T ents G o E2 M n K): ∃r δ,kD Pg T ents G o (VE.get E2) (VM.get M) n r δ∧K r (δ.app n M):=by
 have plain:(im Pg T (VE.get E2) (VM.get M) n o).runP (fun x=>K x.1 (x.2.app n M))→∃r δ,(im Pg T (VE.get E2) (VM.get M) n o).runP (fun x=>x=(r,δ))∧K r (δ.app n M):=by
  intro h;obtain⟨⟨r,δ⟩,h1,h2,_⟩:=E7 Pg T (VE.get E2) (VM.get M) n o _ h;exact⟨r,δ,h1,h2⟩
 obtain⟨dst,op,ty,pos,after,guard⟩:=o;cases op with
 | call c=>
  obtain⟨callee,args,ats⟩:=c;cases callee with
  | value f=>
   replace h:(fU (VE.get E2) (VM.get M) f args.toList).runP fun x=>match ents.contains x.1 with | true=> ∃res,aD Pg G x.1 x.2.1 res∧K res (VM.bump M x.2.2) | false=>False:=h
   obtain⟨x,h1,⟨h2,h3⟩,h4⟩:=zn E2 M f args.toList _ (B0 h);split at h2
   ·rename_i hc;obtain⟨res,hsem,hk⟩:=h2;exact⟨res, .bump x.2.2,h4 _ ⟨hc,hsem,rfl,h3⟩,hk⟩
   ·exact h2.elim
  | _=>exact plain h
 | _=>exact plain h
theorem zM {dst:Option Tmp} {r:MV} {K:VE→Prop} (h:dF N dst r E K): ∃E1,K E1∧(∀d,dst=some d→d < N)∧VE.get E1=kE dst r (VE.get E):=by
 unfold dF at h;split at h
 ·exact⟨E,h,fun d hd=>(nomatch hd),rfl⟩
 ·rename_i d;split at h
  ·rename_i hd;refine⟨_,h,fun d' hd'=>?_,?_⟩
   ·injection hd' with hd';subst hd';simpa [c₆] using hd
   ·funext t;rw [VE.get_cons]
    show _=aN _ d r t
    unfold aN;by_cases ht:d=t
    ·subst ht;simp
    ·rw [if_neg ht,if_neg fun h=>ht h.symm]
  ·exact h.elim
theorem zN {s:Nat} {v:MV} (h:VE.get E s=some v):VE.get ((s,v) :: E)=VE.get E:=by
 funext t;rw [VE.get_cons];split
 ·rename_i hh;subst hh;exact h.symm
 ·rfl
section
variable (Pg:Program) (T:bf) (N:Nat) (ents:List FuncId) (G:GS)
def oJ (rf:Bool) (o:Oper) (E:VE) (M:VM) (n:Nat) (K:MV→VM→List Nat→Prop):Prop:=match rf with
 | false=>vw Pg T ents G o E M n fun r M'=>K r M' (numsO (VE.get E) o.op.operands.toList)
 | true=>match o.op with
  | .call c=>match c.callee with
   | .value f=>(dt E f c.args.toList).runP fun x=>match ents.contains x.1 with
    | true=> ∃fp,lE Pg G M n x.1 x.2 fp fun r M'=>K r M' fp
    | false=>False
   | _=>False
  | _=>False
def rG (ops:Array Oper) (rf:Bool) (o:Oper) (K:List Nat→VE→VM→Prop) (E:VE) (M:VM) (n:Nat):Prop:=match o.guard with
 | none=>oJ Pg T ents G rf o E M n fun r M fp=>dF N o.dst r E fun E=>K fp E M
 | some (j,want)=>match (ops[j]?).bind (·.dst) with
  | none=>False
  | some s=>match VE.get E s with
   | some (.bool t)=>
    (t=want→oJ Pg T ents G rf o ((s, .bool want) :: E) M n fun r M fp=>dF N o.dst r ((s, .bool want) :: E) fun E=>K fp E M)∧
    (t= !want→dF N o.dst .undef ((s, .bool (!want)) :: E) fun E'=>K (bif rf then [] else numsO (VE.get E) o.op.operands.toList) E' M)
   | some .undef=>dF N o.dst .undef E fun E'=>K (bif rf then [] else numsO (VE.get E) o.op.operands.toList) E' M
   | _=>False
def aG (ops:Array Oper):List (Nat×Bool)→List pL→VK→VE→VM→Nat→Prop
 | [],A,K=>fun E M n=>fV ops A.reverse n=true∧K E M n
 | x :: L,A,K=>fun E M n=>match ops[x.1]? with
  | some o=>rG Pg T N ents G ops x.2 o (fun fp E M=>aG ops L (⟨x.1,n,x.2,fp⟩ :: A) K E M (n + 1)) E M n
  | none=>aG ops L A K E M (n + 1)
end
theorem Fm {rf:Bool} {E2:VE} {K:MV→VM→List Nat→Prop} {_D:VE} (h:oJ Pg T ents G rf o E2 M n K) (hg:BO ops o (VE.get E2)=some true) (hd: ∀d,o.dst=some d→d < N): ∃r M' fp,K r M' fp∧cQ Pg T N ents G ops rf o n fp (VE.get E2) (VM.get M) (kE o.dst r (VE.get E2)) (VM.get M'):=by
 cases rf with
 | false=>
  obtain⟨r,δ,h1,h2⟩:=zL (K:=fun r M'=>K r M' (numsO (VE.get E2) o.op.operands.toList)) h;exact⟨r,δ.app n M,_,h2,r,hd,rfl,δ,⟨true,hg,fun _=>h1,fun h=>nomatch h⟩,Dl.get_app _ _ _,rfl⟩
 | true=>
  have hd':=hd;obtain⟨dst,op,ty,pos,after,guard⟩:=o;unfold oJ at h;cases op with
  | call c=>
   obtain⟨callee,args,ats⟩:=c;cases callee with
   | value f=>
    replace h:(eJ (VE.get E2) f args.toList).runP fun x=>match ents.contains x.1 with | true=> ∃fp,lE Pg G M n x.1 x.2 fp fun r M'=>K r M' fp | false=>False:=h
    unfold eJ at h;obtain⟨x,h1,h2,h3⟩:=(af.rd fun fv=>af.rds fun vs=>by cases fv <;> first | exact af.ret _ | exact af.bad) _ h;split at h2
    ·rename_i hc;obtain⟨fp,args',M0,n0,res,M1,n1,a1,σ,bs,a2,a3,a4,a8,a5,a6,a7⟩:=h2;refine⟨_,_,fp,a7,_,hd',rfl,true,hg,fun _=>?_,fun h=>nomatch h⟩
     show(eJ (VE.get E2) f args.toList).runP _
     unfold eJ;exact h3 _ ⟨hc,M,rfl,args',M0,n0,res,M1,n1,a1,σ,bs,a2,a3,a4,a8,a5,a6,rfl,rfl⟩
    ·exact h2.elim
   | _=>exact h.elim
  | _=>exact h.elim
theorem HA {dst:Option Tmp} {r:MV} {K:VE→Prop} (h:dF N dst r E K): ∀d,dst=some d→d < N:=by
 intro d hd;subst hd;unfold dF at h;split at h
 ·rename_i hh;cases hh
 ·rename_i d' hh;injection hh with hh
  subst hh;split at h
  ·rename_i hb;simpa [c₆] using hb
  ·exact h.elim
theorem B8 {rf:Bool} {K:MV→VM→List Nat→Prop} (h:oJ Pg T ents G rf o E M n K): ∃r M' fp,K r M' fp:=by
 cases rf with
 | false=>obtain ⟨r,δ,h1,h2⟩:=zL (K:=fun r M'=>K r M' (numsO (VE.get E) o.op.operands.toList)) h;exact⟨_,_,_,h2⟩
 | true=>
  obtain⟨dst,op,ty,pos,after,guard⟩:=o;unfold oJ at h;cases op with
  | call c=>
   obtain⟨callee,args,ats⟩:=c;cases callee with
   | value f=>
    replace h:(eJ (VE.get E) f args.toList).runP fun x=>match ents.contains x.1 with | true=> ∃fp,lE Pg G M n x.1 x.2 fp fun r M'=>K r M' fp | false=>False:=h
    unfold eJ at h;obtain⟨x,h1,h2,h3⟩:=(af.rd fun fv=>af.rds fun vs=>by cases fv <;> first | exact af.ret _ | exact af.bad) _ h;split at h2
    ·obtain⟨fp,args',M0,n0,res,M1,n1,a1,σ,bs,a2,a3,a4,a8,a5,a6,a7⟩:=h2;exact⟨_,_,_,a7⟩
    ·exact h2.elim
   | _=>exact h.elim
  | _=>exact h.elim
theorem HB {rf:Bool} {K:List Nat→VE→VM→Prop} (h:rG Pg T N ents G ops rf o K E M n): ∃fp E1 M1,K fp E1 M1∧cQ Pg T N ents G ops rf o n fp (VE.get E) (VM.get M) (VE.get E1) (VM.get M1):=by
 have run: ∀{E2:VE},VE.get E2=VE.get E→BO ops o (VE.get E)=some true→(oJ Pg T ents G rf o E2 M n fun r M fp=>dF N o.dst r E2 fun E=>K fp E M)→∃fp E1 M1,K fp E1 M1∧cQ Pg T N ents G ops rf o n fp (VE.get E) (VM.get M) (VE.get E1) (VM.get M1):=by
  intro E2 he hg h;have hd: ∀d,o.dst=some d→d < N:=by obtain⟨r,M',fp,h1⟩:=B8 h;exact HA h1
  obtain⟨r,M',fp,h1,h2⟩:=Fm (_D:=E2) h (by rw [he];exact hg) hd;obtain⟨E1,h3,h4,h5⟩:=zM h1;rw [he] at h2 h5;rw [← h5] at h2;exact⟨fp,E1,M',h3,h2⟩
 have skip: ∀{E2:VE},VE.get E2=VE.get E→BO ops o (VE.get E)=some false→(dF N o.dst .undef E2 fun E'=>K (bif rf then [] else numsO (VE.get E) o.op.operands.toList) E' M)→∃fp E1 M1,K fp E1 M1∧cQ Pg T N ents G ops rf o n fp (VE.get E) (VM.get M) (VE.get E1) (VM.get M1):=by
  intro E2 he hg h;obtain⟨E1,h3,h4,h5⟩:=zM h;rw [he] at h5;cases rf with
  | false=>exact ⟨_,E1,M,h3, .undef,h4,h5, .none,⟨false,hg,fun h=>(nomatch h),fun _=>⟨rfl,rfl⟩⟩,rfl,rfl⟩
  | true=>exact ⟨_,E1,M,h3, .undef,h4,h5,false,hg,fun h=>(nomatch h),fun _=>⟨rfl,rfl⟩⟩
 unfold rG at h;split at h
 ·rename_i hg;exact run rfl (by simp [BO,hg]) h
 ·rename_i j want hg;split at h
  ·exact h.elim
  ·rename_i s hj;split at h
   ·rename_i t ht;by_cases hw:t=want
    ·exact run (zN (by rw [ht,hw])) (by simp [BO,hg,hj,ht,hw]) (h.1 hw)
    ·have hw':t= !want:=by cases t <;> cases want <;> simp_all
     exact skip (zN (by rw [ht,hw'])) (by simp [BO,hg,hj,ht,hw]) (h.2 hw')
   ·rename_i ht;exact skip rfl (by simp [BO,hg,hj,ht]) h
   ·exact h.elim
def Pe (n n':Nat) (L:List pL):Prop:=(L.map (·.n)).Nodup∧∀x∈L,n≤x.n∧x.n < n'
theorem p9: ∀{L:List (Nat×Bool)} {A:List pL} {K:VK} {E:VE} {M:VM} {n:Nat},aG Pg T N ents G ops L A K E M n→
  ∃D E1 M1,fV ops (A.reverse ++ D) (n + L.length)=true∧Pe n (n + L.length) D∧K E1 M1 (n + L.length)∧Hw Pg T N ents G ops D (VE.get E) (VM.get M) (VE.get E1) (VM.get M1)
 | [],A,K,E,M,n,h=>⟨[],E,M,by simpa using h.1,⟨List.nodup_nil,fun _ h=>nomatch h⟩,h.2,rfl,rfl⟩
 | x :: L,A,K,E,M,n,h=>by
  unfold aG at h
  split at h
  ·rename_i o ho
   obtain⟨fp,E1,M1,h1,h2⟩:=HB h
   obtain⟨D,E2,M2,h3,h5,h6,h7⟩:=p9 h1
   refine⟨⟨x.1,n,x.2,fp⟩ :: D,E2,M2,by rw [b₀,show n + (L.length + 1)=n + 1 + L.length by omega];simpa using h3,⟨List.nodup_cons.2 ⟨fun hm=>?_,h5.1⟩,fun y hy=>?_⟩,by rw [b₀,show n + (L.length + 1)=n + 1 + L.length by omega];exact h6,o,_,_,ho,h2,h7⟩
   ·obtain⟨y,hy,he⟩:=b₆.1 hm
    have:=(h5.2 y hy).1
    simp only at he
    omega
   ·rcases b₂.1 hy with rfl | hy
    ·simp
    ·have:=h5.2 y hy
     simp only [b₀]
     omega
  ·obtain⟨D,E2,M2,h3,h5,h6,h7⟩:=p9 h
   have e:n + (x :: L).length=n + 1 + L.length:=by rw [b₀];omega
   rw [e]
   exact⟨D,E2,M2,h3,⟨h5.1,fun y hy=>by have:=h5.2 y hy;omega⟩,h6,h7⟩
end
end
section
inductive Rs (n0:Nat) (K:VK):VE→VM→Nat→Prop
 | go {E:VE} {M:VM} {n:Nat} (h:K E M n):Rs n0 K E M n
 | re {E:VE} {M:VM} {n:Nat} (E':VE) (M':VM) (n':Nat) (h:iu n0 E' M' n' E M) (k:K E' M' n'):Rs n0 K E M n
section
variable (Pg:Program) (T:bf) (N:Nat) (ents:List FuncId) (G:GS) (n0:Nat)
def vC:Code→(Exit→VK)→VK
 | .skip,Q,E,M,n=>Q .normal E M n
 | .region _ ops draw,Q,E,M,n=>match draw with
  | false=>aj Pg T N ents G ops ops.toList (Q .normal) E M n
  | true=> ∃L:List (Nat×Bool),aG Pg T N ents G ops L [] (Q .normal) E M n
 | .seq x y,Q,E,M,n=>vC x (fun e E M n=>match e with | .normal=>Rs n0 (vC y Q) E M n | e=>Q e E M n) E M n
 | .cond c x y,Q,E,M,n=>match iD (VE.get E) c with
  | some (.bool t)=>(t=true→vC x Q E M n)∧(t=false→vC y Q E M n)
  | _=>False
 | .block id c,Q,E,M,n=>vC c (fun e E M n=>match e with | .exit i=>(bif a₆ i id then Q .normal E M n else Q (.exit i) E M n) | e=>Q e E M n) E M n
 | .loop c,Q,E,M,_=> ∃(X:Type) (E':X→VE) (M':X→VM) (n':Nat) (I:X→Prop) (μ:X→Nat),
   (∃x,I x∧iu n0 (E' x) (M' x) n' E M)∧
   ∀x,I x→vC c (fun e E1 M1 n1=>match e with | .normal=> ∃x',I x'∧μ x' < μ x∧iu n0 (E' x') (M' x') n' E1 M1 | e=>Q e E1 M1 n1) (E' x) (M' x) n'
 | .exit id,Q,E,M,n=>Q (.exit id) E M n
 | .ret,Q,E,M,n=>Q .ret E M n
 | .label _,Q,E,M,n=>Q .normal E M n
 | _,_,_,_,_=>False
def kF:List MV→MV
 | [v] =>v
 | vs=> .tup vs
def dK (M:VM) (E:VE):List ResultVar→(List MV→Prop)→Prop
 | [],K=>K []
 | .tmp t :: l,K=>match VE.get E t with
  | some v=>dK M E l fun r=>K (v :: r)
  | none=>False
 | .cell p ty :: l,K=>match VE.get E p with
  | some p=>(fS T (VM.get M) ty p).runP fun x=>dK M E l fun r=>K (x.1 :: r)
  | none=>False
def HC (rs:List ResultVar) (R:MV→Prop):Exit→VK:=fun e E M _=>match e with
 | .ret | .normal=>dK T M E rs fun vs=>(fh (VM.get M) vs).runP fun x=>R (kF x.1)
 | _=>False
def Mb (rs:List ResultVar) (res:MV) (M1:VM) (n1:Nat):Exit→VK:=fun e E M _=>match e with
 | .ret | .normal=>dK T M E rs fun vs=> ∃(rv:List MV) (σ bs:List (Nat×Nat)),kF rv=res∧dP n0 rv M1 n1 vs M σ bs
 | _=>False
def DB (rs:List ResultVar) (Φ:MV→VM→Nat→Prop):Exit→VK:=fun e E M _=>match e with
 | .ret | .normal=>dK T M E rs fun vs=> ∃(res:MV) (M1:VM) (n1:Nat),Φ res M1 n1∧∃(rv:List MV) (σ bs:List (Nat×Nat)),kF rv=res∧dP n0 rv M1 n1 vs M σ bs
 | _=>False
end
section
variable {ops:Array Oper} {e:Nat→Option MV} {F F':Nat→Prop} {Pg:Program} {T:bf} {N:Nat} {ents:List FuncId} {G:GS} {w0 w w':World} {ex0:EY} {P0 P:bC} {adr:dV} {E:VE} {M:VM} {m:FM} {n:Nat} {a:Act} {r:MV} {u:Value} {δ:Dl}
def HD (N:Nat) (w0:World) (ex0:EY) (P0:bC) (Q:Exit→VK):Exit→Act→World→Prop:=fun e a w=> ∃E M n,Q e E M n∧ow N w0 ex0 P0 (VE.get E) (VM.get M) n a w
theorem jM.drew (hs:jM N w0 ex0 P0 e m F a w):jM N w0 ex0 P0 e m F a { w with drawn:=w.drawn + 1 }:=by
 obtain⟨P,adr,hI,hE,ha1,ha2,ha3⟩:=hs.ex;have hb:Below w.heap.size w { w with drawn:=w.drawn + 1 }:=⟨rfl,rfl,rfl,c₅ _,fun _ _=>rfl⟩;refine⟨⟨gM w { w with drawn:=w.drawn + 1 } P,adr,hI.below hb,fun t v ht=>?_,ha1,⟨ha2.in_,ha2.old,ha2.keep.trans (bg.below hI.prot hb)⟩,fun b o ho=>?_⟩,hs.fresh,hs.ge,⟨hs.since.os,hs.since.tape,hs.since.output,hs.since.size,hs.since.block⟩,hs.defers,hs.size⟩
 ·obtain⟨u,h1,h2⟩:=hE t v ht;exact⟨u,h1,h2.keep (bg.below hI.prot hb)⟩
 ·rcases ho with h | h
  ·exact ha3 b o h
  ·exact .inr (.inl (c₂ hs.since.size h.1))
theorem jM.mono (hs:jM N w0 ex0 P0 e m F a w) (hF: ∀c,F' c→F c):jM N w0 ex0 P0 e m F' a w:=by
 obtain⟨P,adr,hI,hE,ha1,ha2,ha3⟩:=hs.ex;exact⟨⟨P,adr,hI,hE,fun c hc=>ha1 c (hF c hc),ha2,ha3⟩,fun c hc=>hs.fresh c (hF c hc),fun c hc=>hs.ge c (hF c hc),hs.since,hs.defers,hs.size⟩
theorem oK {M':VM} {n':Nat} {w':World} {P':bC} {adr':dV} (hd:a.defers= []) (hz:a.tmps.size=N) (hI:aQ w' P' adr' (VM.get M')) (hE:fH w' P' adr' (VE.get E) a) (hr:aI w' P' adr' r u) (h1: ∀c,n'≤c→adr' c=none) (h2:iE w0 ex0 P0 w' P' adr')
  (h3: ∀b o,P' b o→P0 b o∨w0.heap.size≤b∨ex0.ex b) (h4: ∀c,n'≤c→VM.get M' c=none) (h5:ex0.n0≤n') (h6:bl ex0.ex w0 w') {dst:Option Tmp} {K:VE→Prop} (hK:dF N dst r E K): ∃E',K E'∧ow N w0 ex0 P0 (VE.get E') (VM.get M') n' (a.put dst u) w':=by
 unfold dF at hK
 split at hK
 ·exact⟨E,hK,⟨P',adr',hI,hE,h1,h2,h3⟩,h4,h5,h6,hd,hz⟩
 ·rename_i d
  split at hK
  ·rename_i hlt
   have hlt:d < N:=by simpa [c₆] using hlt
   exact⟨_,hK,⟨P',adr',hI,hE.put hz hlt hr,h1,h2,h3⟩,h4,h5,h6,hd,by simp [Act.put,hz]⟩
  ·exact hK.elim
theorem B9 {o:Oper} {k:Nat} (hk:pW Pg E M o=some k) (hI:aQ w P adr (VM.get M)) (hE:fH w P adr (VE.get E) a):(execOp a.eval o).run Pg w= .ok (.value (.int .i64 k)) w:=by
 obtain⟨dst,op,ty,pos,after,guard⟩:=o;unfold pW at hk;split at hk
 ·rename_i c hop;obtain⟨callee,args,ats⟩:=c;have hop:op= .call ⟨callee,args,ats⟩:=hop;subst hop;split at hk
  ·rename_i hcl;have hcl:callee= .builtin .len:=hcl;subst hcl;split at hk
   ·rename_i x t hx ht;have hx:args.toList= [x] :=hx;have ht:ats.toList= [t] :=ht;have hargs:args= #[x] :=by rw [← Array.toList_inj];exact hx
    have hats:ats= #[t] :=by rw [← Array.toList_inj];exact ht
    subst hargs;subst hats;split at hk
    ·rename_i c hc;split at hk
     ·rename_i b hb;split at hk
      ·rename_i ks vs hl;split at hk
       ·rename_i kt et hu;split at hk;rotate_left
        ·cases hk
        rename_i hkv;injection hk with hk
        subst hk;obtain⟨g,hg,hv⟩:=(rO hE hc).mp_;obtain⟨clk,es,hw,hEn⟩:=xl hI hb hl hg hkv;have hlen:=hEn.len.1;have hr:(Builtin.len_ #[t] ty #[.map (some g)]).run Pg w= .ok (goInt es.size) w:=by
         simp [Builtin.len_,run_underlying hu,MapKept.run_getObj_map hw]
        have e:execOp a.eval ⟨dst, .call ⟨.builtin .len, #[x], #[t]⟩,ty,pos,after,guard⟩=builtin .len #[t] ty ((#[x] :Array Operand).map fun | .const _=>true | _=>false) ((#[x] :Array Operand).map a.eval):=by
         simp [execOp,resolve,invoke];rfl
        have h2:(builtin .len #[t] ty ((#[x] :Array Operand).map fun | .const _=>true | _=>false) #[.map (some g)]).run Pg w= .ok (.value (goInt es.size)) w:=by
         show(do pure (.value (← Builtin.len_ #[t] ty #[.map (some g)])):Sem Next).run Pg w=_
         rw [Sem.run_bind,hr];rfl
        rw [e];have h3:((#[x] :Array Operand).map a.eval)= #[.map (some g)] :=by simp [hv]
        rw [h3,h2,← hlen];rfl
       ·cases hk
      ·cases hk
     ·cases hk
    ·cases hk
   ·cases hk
  ·cases hk
 ·cases hk
theorem HE (hS:jD Pg T ents G w0 ex0) {o:Oper} {K:VK} {next:Act→World→Prop} {Q:Exit→Act→World→Prop}
  (h:xt Pg T N ents G ops o K E M n) (hs:ow N w0 ex0 P0 (VE.get E) (VM.get M) n a w) (hn: ∀E M n a w,K E M n→ow N w0 ex0 P0 (VE.get E) (VM.get M) n a w→next a w) :
  if Region.wanted o (yielded ops a.tmps) then o.wp Pg a w next Q∨(o.asks Pg a w∧LetsOut Q) else next (a.put o.dst undef) w:=by
 obtain⟨P,adr,hI,hE,ha1,ha2,ha3⟩:=hs.ex
 have run: ∀{E2:VE},fH w P adr (VE.get E2) a→(sN Pg T ents G o E2 M n fun r M n=>dF N o.dst r E2 fun E=>K E M n)→o.wp Pg a w next Q:=by
  intro E2 hE2 h
  unfold sN at h
  split at h
  ·rename_i k neg hq
   unfold xr at hq
   split at hq
   ·rename_i op t x ty' hop
    split at hq
    ·rename_i k' l hx
     split at hq
     ·rename_i e es hd
      have hp:=rO hE2 hx
      obtain⟨A,cap,es',parts,e1,_,_,_,h4,_⟩:=hp.sl_
      have hc:ju T t (.const (.slice none 0 0)) (.val (a.eval x)) (.val (.slice none 0 0))=some A.isNone:=by
       rw [e1]
       cases A with
       | none=>obtain ⟨q1,q2⟩:=h4 rfl;subst q1;subst q2;simp [ju,hd]
       | some _=>simp [ju,hd]
      obtain⟨r1,r2⟩:=sg (xo:=x) (P:=Pg) hS.seat.tab hc w
      have hA:A.isNone=true→k'=0:=fun hA=>(h4 (by simpa using hA)).1
      obtain⟨dst,op',ty,pos,after,guard⟩:=o
      have hop:op'= .binOp op t x (.const (.slice none 0 0)) ty':=hop
      subst hop
      have fin: ∀(bb:Bool),(do eqGuard op t x (.const (.slice none 0 0)) (a.eval x) (.slice none 0 0);binOp op t (a.eval x) (.slice none 0 0):Sem Value).run Pg w= .ok (.bool bb) w→(dF N dst (.bool bb) E2 fun E=>K E M (n + 1))→(⟨dst, .binOp op t x (.const (.slice none 0 0)) ty',ty,pos,after,guard⟩:Oper).wp Pg a w next Q:=by
       intro bb hr hk
       have hres:=EJ.val (a:=a) (o:=⟨dst, .binOp op t x (.const (.slice none 0 0)) ty',ty,pos,after,guard⟩) (Q:=fun u w'=>u= .bool bb∧w'=w) _ rfl hr ⟨rfl,rfl⟩
       obtain⟨E',q1,q2⟩:=oK (n':=n + 1) hs.defers hs.size hI hE2 (.val [_] .bool) (fun c hc=>ha1 c om) ha2 ha3 (fun c hc=>hs.fresh c om) (by have:=hs.ge;omega) hs.since hk
       unfold Oper.wp
       rcases hres with ⟨u,w',p1,rfl,rfl⟩ | ⟨w',p1,p2,_⟩
       ·rw [p1];exact hn _ _ _ _ _ q1 q2
       ·cases p2
      split at hq
      ·injection hq with hq;injection hq with hq1 hq2;subst hq1;subst hq2
       exact fin _ r1 (h A.isNone hA)
      ·injection hq with hq;injection hq with hq1 hq2;subst hq1;subst hq2
       exact fin _ r2 (h A.isNone hA)
      ·cases hq
     ·cases hq
    ·cases hq
   ·cases hq
  have old:(vw Pg T ents G o E2 M n fun r M=>dF N o.dst r E2 fun E=>K E M (n + 1))→o.wp Pg a w next Q:=by
   intro h
   refine Kp hS h hI ha1 hs.fresh hE2 hs.since fun r δ u w' hk hp=>?_
   obtain⟨E',h1,h2⟩:=hs.post hI hE2 ha1 ha2 ha3 hp hk
   exact hn _ _ _ _ _ h1 h2
  obtain⟨dst,op,ty,pos,after,guard⟩:=o
  cases op with
  | call c=>
   obtain⟨callee,args,ats⟩:=c
   cases callee with
   | builtin b=>
    rcases h with h | ⟨k,hk,h⟩
    ·exact old h
    ·have hrun:=B9 hk hI hE2
     obtain⟨E',q1,q2⟩:=oK (n':=n + 1) hs.defers hs.size hI hE2 (.val [_] .int) (fun c hc=>ha1 c om) ha2 ha3 (fun c hc=>hs.fresh c om) (by have:=hs.ge;omega) hs.since h
     unfold Oper.wp
     rw [hrun]
     exact hn _ _ _ _ _ q1 q2
   | invoke r n=>exact old h
   | value f=>
    rcases h with h | h
    ·exact old h
    ·unfold dt at h
     obtain⟨pf,h,hpf⟩:=bz hE2 h
     obtain⟨ps,h,hps⟩:=iH hE2 h
     cases pf with
     | fn f0 caps=>
      generalize hu:a.eval f=uf at hpf
      cases hpf with
      | val cs hfn=>
       cases hfn with
       | fn parts hpl hpr=>
        have hall:=hps.app (cB.of_parts hpl hpr)
        have hex: ∀w1,(execOp a.eval ⟨dst, .call ⟨.value f,args,ats⟩,ty,pos,after,guard⟩).run Pg w1=(callFunc f0 (args.toList.map a.eval ++ b₇ valM caps parts).toArray).run Pg w1:=fun w1=>by
         have hmap:args.map a.eval=(args.toList.map a.eval).toArray:=jn _ _
         simp [execOp,resolve,hu,valM,MV.isAgg,Deferred.ofValue,invoke,hmap]
        replace h:(match ents.contains f0 with | true=>iT Pg G vx M n f0 (ps ++ caps) (fun r M n=>dF N dst r E2 fun E=>K E M n) | false=>iT Pg G zg M n f0 (ps ++ caps) (fun r M n=>dF N dst r E2 fun E=>K E M n)):=h
        split at h
        ·rename_i hc
         have hrun:=(hex w).trans (hS.seat.enters f0 (by simpa using hc) (args.toList.map a.eval ++ b₇ valM caps parts).toArray w)
         unfold Oper.wp
         rw [hrun]
         refine(vX (C:=fun P f a w Q=>Calls P f a w Q) (fun h k=>h.mono k) hS h hs.since hs.fresh hs.ge hI hE2 ha1 ha2 ha3 hall).mono ?_
         rintro e w' ⟨v,rfl,r,M',n',hk,P',adr',q1,q2,q3,q4,q5,q6,q7,q8,q9⟩
         obtain⟨E',h1,h2⟩:=oK hs.defers hs.size q1 q2 q3 q4 q5 q6 q7 q8 q9 hk
         exact hn _ _ _ _ _ h1 h2
        ·obtain⟨v0,w',hr,v,he,r,M',n',hk,P',adr',q1,q2,q3,q4,q5,q6,q7,q8,q9⟩:=vX (C:=sM) (fun h k=>h.mono k) hS h hs.since hs.fresh hs.ge hI hE2 ha1 ha2 ha3 hall
         injection he with he
         subst he
         have hrun:=(hex w).trans hr
         unfold Oper.wp
         rw [hrun]
         obtain⟨E',h1,h2⟩:=oK hs.defers hs.size q1 q2 q3 q4 q5 q6 q7 q8 q9 hk
         exact hn _ _ _ _ _ h1 h2
     | _=>exact h.elim
  | _=>exact old h
 have skip: ∀{E2:VE},fH w P adr (VE.get E2) a→(dF N o.dst .undef E2 fun E=>K E M (n + 1))→next (a.put o.dst undef) w:=by
  intro E2 hE2 h
  obtain⟨E',h1,h2⟩:=hs.post (δ:= .none) hI hE2 ha1 ha2 ha3 (bu.pure hI (ha1 n (c₅ _)) .undef) h
  exact hn _ _ _ _ _ h1 h2
 unfold xt at h
 split at h
 ·rename_i hg
  rw [if_pos (by simp [Region.wanted,hg])]
  exact .inl (run hE h)
 ·rename_i j want hg
  split at h
  ·exact h.elim
  ·rename_i s hj
   split at h
   ·rename_i t ht
    have hv:=hs.know ht
    have hy:yielded ops a.tmps j=some t:=by simp [yielded,hj,hv]
    by_cases hw:t=want
    ·rw [if_pos (by simp [Region.wanted,hg,hy,hw])]
     exact .inl (run (hE.know (by rw [ht,hw])) (h.1 hw))
    ·have hw':t= !want:=by cases t <;> cases want <;> simp_all
     rw [if_neg (by simp [Region.wanted,hg,hy,hw])]
     exact skip (hE.know (by rw [ht,hw'])) (h.2 hw')
   ·rename_i ht
    obtain⟨v,hv1,hv2⟩:=hE s _ ht
    have hv:v=undef:=hv2.undef_
    subst hv
    have hy:yielded ops a.tmps j=none:=by simp [yielded,hj,hv1,undef]
    rw [if_neg (by simp [Region.wanted,hg,hy])]
    exact skip hE h
   ·exact h.elim
theorem zO (hS:jD Pg T ents G w0 ex0) (ops:Array Oper): ∀(l:List Oper) {K:VK} {E:VE} {M:VM} {n:Nat} {a:Act} {w:World} {Q:Exit→Act→World→Prop},
  aj Pg T N ents G ops l K E M n→ow N w0 ex0 P0 (VE.get E) (VM.get M) n a w→(∀E M n a w,K E M n→ow N w0 ex0 P0 (VE.get E) (VM.get M) n a w→Q .normal a w)→wpList Pg ops Q l a w
 | [],_,E,M,n,a,w,_,h,hs,hQ=>hQ E M n a w h hs
 | o :: rest,K,E,M,n,a,w,Q,h,hs,hQ=>by
  replace h:Rt n (fun E M=>xt Pg T N ents G ops o (aj Pg T N ents G ops rest K) E M n) E M:=h
  have key: ∀{E:VE} {M:VM},Rt n (fun E M=>xt Pg T N ents G ops o (aj Pg T N ents G ops rest K) E M n) E M→ow N w0 ex0 P0 (VE.get E) (VM.get M) n a w→∃E' M',xt Pg T N ents G ops o (aj Pg T N ents G ops rest K) E' M' n∧ow N w0 ex0 P0 (VE.get E') (VM.get M') n a w:=by
   intro E M h
   induction h with
   | go h=>intro hs;exact⟨_,_,h,hs⟩
   | re E' M' h1 _ ih=>intro hs;exact ih (hs.frz h1)
  obtain⟨E',M',h',hs'⟩:=key h hs
  exact HE hS (next:=wpList Pg ops Q rest) (Q:=Q) h' hs' fun _ _ _ _ _ h hs=>zO hS ops rest h hs hQ
theorem KD (hS:jD Pg T ents G w0 ex0) {id:Nat} {L:List (Nat×Bool)} {Q:Exit→VK} (h:aG Pg T N ents G ops L [] (Q .normal) E M n) (hs:ow N w0 ex0 P0 (VE.get E) (VM.get M) n a w):(Code.region id ops true).wp Pg (HD N w0 ex0 P0 Q) a w:=by
 obtain⟨D,E1,M1,hok,⟨hnd,hnb⟩,hq,hr⟩:=p9 h;rw [List.reverse_nil,List.nil_append] at hok;simp only [fV,a₀,a₇] at hok;obtain⟨⟨⟨hls,hall⟩,hlen⟩,htwo⟩:=hok;obtain⟨hP,hA⟩:=wh hls;refine wp_region_any hS.seat.mixed ?_;refine MF (Z:=fun c=>n + L.length≤c) hS (fun a w hs'=>⟨E1,M1,_,hq,hs'.toSim fun c hc=>hc⟩) ops.size D ⟨M,rfl⟩ hr hP hA (N8 htwo hnd) (fun x hx c ho hz=>?_) ?_ (fun k hk=>?_) sm (fun k o ho hl=>?_) ?_
 ·have h1:=(hnb x hx).2;replace hz:n + L.length≤c:=hz;rcases ho with rfl | ⟨rfl,ho⟩
  ·omega
  ·have:=(p8 htwo hx ho).1;omega
 ·refine(hs.toS.drew).mono fun c hc=>?_
  rcases hc with ⟨x,hx,ho⟩ | hc
  ·show n≤c
   have:=(hnb x hx).1;rcases ho with rfl | ⟨rfl,_⟩ <;> omega
  ·show n≤c
   replace hc:n + L.length≤c:=hc;omega
 ·have h1:(Array.replicate ops.size false).getD k true=false:=by simp [Array.getD,hk]
  have h2:k∈D.map (·.k):=by simpa using hall k (by simpa using hk)
  exact⟨fun _=>h2,fun _=>h1⟩
 ·exfalso;by_cases hk:k < ops.size
  ·simp [Array.getD,hk] at hl
  ·simp [Array.getD,hk] at hl
 ·simpa using hlen
theorem HF (hS:jD Pg T ents G w0 ex0): ∀(c:Code) {Q:Exit→VK} {E:VE} {M:VM} {n:Nat} {a:Act} {w:World},
  vC Pg T N ents G ex0.n0 c Q E M n→ow N w0 ex0 P0 (VE.get E) (VM.get M) n a w→c.wp Pg (HD N w0 ex0 P0 Q) a w:=by
 intro c
 induction c with
 | skip=>intro Q E M n a w h hs;exact wp_skip ⟨E,M,n,h,hs⟩
 | region id ops draw=>
  intro Q E M n a w h hs
  cases draw with
  | false=>exact wp_region_list (zO hS ops _ h hs fun E M n a w hk hs=>⟨E,M,n,hk,hs⟩)
  | true=>
   obtain⟨L,h⟩:=h
   exact KD hS h hs
 | seq x y ihx ihy=>
  intro Q E M n a w h hs
  refine wp_seq (Code.wp_mono (fun e a w hq=>?_) (ihx h hs))
  obtain⟨E',M',n',hq,hs'⟩:=hq
  cases e with
  | normal=>
   cases hq with
   | go h=>exact ihy h hs'
   | re E2 M2 n2 h k=>exact ihy k (hs'.matched h)
  | _=>exact ⟨E',M',n',hq,hs'⟩
 | cond c x y ihx ihy=>
  intro Q E M n a w h hs
  simp only [vC] at h
  split at h
  ·rename_i t ht
   obtain⟨P,adr,hI,hE,_⟩:=hs.ex
   have hv:=(rO hE ht).bool_
   exact wp_cond_split hv (fun ht=>ihx (h.1 ht) hs) (fun ht=>ihy (h.2 ht) hs)
  ·exact h.elim
 | block id c ih=>
  intro Q E M n a w h hs
  refine wp_block (Code.wp_mono (fun e a w hq=>?_) (ih h hs))
  obtain⟨E',M',n',hq,hs'⟩:=hq
  cases e with
  | exit i=>
   by_cases hi:i=id
   ·subst hi
    simp at hq
    simp only [Exit.inBlock,if_true]
    exact⟨E',M',n',hq,hs'⟩
   ·simp only [fD hi,cond_false] at hq
    simp only [Exit.inBlock,hi,if_false]
    exact⟨E',M',n',hq,hs'⟩
  | _=>exact ⟨E',M',n',hq,hs'⟩
 | loop c ih=>
  intro Q E M n a w h hs
  obtain⟨X,E',M',n',I,μ,⟨x0,hI0,hm0⟩,h1⟩:=h
  have hs0:=hs.matched hm0
  intro b k cs
  have key: ∀j x a w,μ x=j→I x→ow N w0 ex0 P0 (VE.get (E' x)) (VM.get (M' x)) n' a w→
    ∃e a' w',HD N w0 ex0 P0 Q e a' w'∧Arrives Pg (lone (b.at a (.code c :: .inLoop c :: k)) cs w) b k cs e a' w':=by
   intro j
   induction j using Nat.strongRecOn with
   | _ j ihn=>
    intro x a w hn hI hs
    obtain⟨e,a₁,w₁,hq,harr⟩:=ih (h1 x hI) hs b (.inLoop c :: k) cs
    obtain⟨E1,M1,n1,hq,hs1⟩:=hq
    cases e with
    | normal=>
     obtain⟨x',hI',hlt,hm⟩:=hq
     obtain⟨e₂,a₂,w₂,hq₂,harr₂⟩:=ihn (μ x') (hn▸hlt) x' a₁ w₁ rfl hI' (hs1.matched hm)
     exact⟨e₂,a₂,w₂,hq₂, .of_steps (Steps.trans harr (.one step_inLoop)) harr₂⟩
    | exit id=>exact ⟨_,a₁,w₁,⟨E1,M1,n1,hq,hs1⟩, .pass (x:= .inLoop c) rfl (fun _ _=> .inl sm) harr⟩
    | goto l=>exact ⟨_,a₁,w₁,⟨E1,M1,n1,hq,hs1⟩, .pass (x:= .inLoop c) rfl (fun _ _=> .inl sm) harr⟩
    | ret=>exact ⟨_,a₁,w₁,⟨E1,M1,n1,hq,hs1⟩, .pass (x:= .inLoop c) rfl (fun _ _=> .inl sm) harr⟩
    | panic ch=>exact ⟨_,a₁,w₁,⟨E1,M1,n1,hq,hs1⟩, .pass (x:= .inLoop c) rfl (fun _ _=> .inl sm) harr⟩
    | outgrown=>exact ⟨_,a₁,w₁,⟨E1,M1,n1,hq,hs1⟩, .pass (x:= .inLoop c) rfl (fun _ _=> .inl sm) harr⟩
  obtain⟨e,a',w',hq,harr⟩:=key _ x0 a w rfl hI0 hs0
  exact⟨e,a',w',hq, .of_steps (.one step_loop) harr⟩
 | exit id=>intro Q E M n a w h hs;exact wp_exit ⟨E,M,n,h,hs⟩
 | ret=>intro Q E M n a w h hs;exact wp_ret ⟨E,M,n,h,hs⟩
 | label l=>intro Q E M n a w h hs;exact wp_label ⟨E,M,n,h,hs⟩
 | rangeFunc=>intro Q E M n a w h;exact h.elim
 | scope=>intro Q E M n a w h;exact h.elim
 | goto=>intro Q E M n a w h;exact h.elim
 | refuse=>intro Q E M n a w h;exact h.elim
theorem jN (hT:bL Pg T) (hI:aQ w P adr (VM.get M)) (hE:fH w P adr (VE.get E) a): ∀{rs:List ResultVar} {K:List MV→Prop},dK T M E rs K→
  ∃(ps:List MV) (vs:List Value),vs.length=rs.length∧(∀(i:Nat) (r:ResultVar),rs[i]? =some r→∃v,vs[i]? =some v∧(sk a.tmps r).run Pg w= .ok v w)∧cB w P adr ps vs∧K ps
 | [],K,h=>⟨[],[],rfl,fun i r hi=>by simp at hi, .nil,h⟩
 | .tmp t :: l,K,h=>by
  unfold dK at h
  split at h
  ·rename_i p hp
   obtain⟨v,h1,h2⟩:=hE t p hp
   obtain⟨ps,vs,hl,hi,hr,hK⟩:=jN hT hI hE h
   refine⟨p :: ps,v :: vs,by simp [hl],fun i r hr=>?_, .cons h2 hr,hK⟩
   cases i with
   | zero=>simp at hr;subst hr;exact⟨v,rfl,by simp [sk,h1]⟩
   | succ i=>exact hi i r (by simpa using hr)
  ·exact h.elim
 | .cell p ty :: l,K,h=>by
  unfold dK at h
  split at h
  ·rename_i q hq
   obtain⟨uv,h1,h2⟩:=hE p q hq
   obtain⟨r0,v,h3,h4,h5⟩:=sy hT h h2 hI
   obtain⟨ps,vs,hl,hi,hr,hK⟩:=jN hT hI hE h3
   refine⟨r0 :: ps,v :: vs,by simp [hl],fun i r hr=>?_, .cons h5 hr,hK⟩
   cases i with
   | zero=>
    simp at hr
    subst hr
    refine⟨v,rfl,?_⟩
    have hg':a.tmps.getD p undef=uv:=by simp [h1]
    simp only [sk,hg']
    exact vp h4
   | succ i=>exact hi i r (by simpa using hr)
  ·exact h.elim
theorem xH {ps:List MV} {vs:List Value} (h:cB w P adr ps vs) (hv: ∀p∈ps,p.isVal=true):aI w P adr (kF ps) (tup vs):=by
 obtain⟨parts,h1,h2,rfl⟩:=h.caps hv
 match ps,parts,h1,h2 with
 | [],[],_,_=>exact .tup [] rfl (fun j m u h=>by simp at h)
 | [p],[q],_,h2=>exact .val q (h2 0 p q rfl rfl)
 | p :: p' :: ps,q :: q' :: parts,h1,h2=>
  refine .tup (b₇ valM (p :: p' :: ps) (q :: q' :: parts)) (by rw [List.length_zipWith];simp at h1 ⊢;omega) fun j m u hj hu=>?_
  rw [List.getElem?_zipWith] at hu;rw [hj] at hu;cases hq:(q :: q' :: parts)[j]? with
  | none=>rw [hq] at hu;cases hu
  | some c=>
   rw [hq] at hu;injection hu with hu
   exact⟨c,h2 j m c hj hq,hu.symm⟩
theorem oL: ∀{l:List MV} {i t:Nat} {v:MV},VE.get (rD i l) t=some v→i≤t∧l[t - i]? =some v
 | [],i,t,v,h=>by simp [rD,VE.get] at h
 | x :: l,i,t,v,h=>by
  rw [rD,VE.get_cons] at h
  split at h
  ·rename_i e;subst e;injection h with h;subst h;simp
  ·rename_i e
   obtain⟨h1,h2⟩:=oL h
   refine⟨om,?_⟩
   rw [show t - i=(t - (i + 1)) + 1 by omega]
   simpa using h2
theorem cB.get: ∀{ps:List MV} {vs:List Value},cB w P adr ps vs→∀{i:Nat} {p:MV},ps[i]? =some p→∃v,vs[i]? =some v∧aI w P adr p v
 | _,_, .nil,i,p,h=>by simp at h
 | _,_, .cons (p:=q) (v:=v) h t,i,p,hi=>by
  cases i with
  | zero=>simp at hi;subst hi;exact⟨v,rfl,h⟩
  | succ i=>simpa using t.get (i:=i) (by simpa using hi)
theorem cB.length: ∀{ps:List MV} {vs:List Value},cB w P adr ps vs→ps.length=vs.length
 | _,_, .nil=>rfl
 | _,_, .cons _ t=>by simp [t.length]
theorem Fo {K:List MV×List (Nat×Nat)→Prop} {m:FM}: ∀{l:List MV},(fh m l).runP K→(fh m l).runP fun x=>K x∧∀p∈x.1,p.isVal=true:=by
 have one: ∀{p:MV} {K:MV×List (Nat×Nat)→Prop},(cM m p).runP K→(cM m p).runP fun x=>K x∧x.1.isVal=true:=by
  intro p K h;cases p <;> simp only [cM] at h ⊢
  case ms c es off n=>
   split at h
   ·split at h
    ·obtain⟨a1,l,a2,h⟩:=h;exact⟨a1,l,a2,h,rfl⟩
    ·exact h.elim
   ·exact h.elim
  case ptr c es k fo path=>
   split at h
   ·rename_i b hb;cases he:a₆ b.es es with
    | false=>rw [he] at h;exact h.elim
    | true=>
     rw [he] at h;obtain⟨v,q1,h⟩:=h;dsimp only at h;cases hf:v.idFree with
     | false=>rw [hf] at h;exact h.elim
     | true=>rw [hf] at h;exact⟨v,q1,by simp only [hf];exact⟨h,rfl⟩⟩
   ·exact h.elim
  case st l=>exact cR (aX.bind_runP.1 h) fun _ h=>⟨h,rfl⟩
  case fn f l=>exact cR (aX.bind_runP.1 h) fun _ h=>⟨h,rfl⟩
  case ifc t v=>exact gW (aX.bind_runP.1 h) fun _ h=>⟨h,rfl⟩
  all_goals first | exact h.elim | exact⟨h,rfl⟩
 intro l
 induction l generalizing K with
 | nil=>intro h;exact⟨h,fun p hp=>nomatch hp⟩
 | cons q l ih=>
  intro h;simp only [fh] at h ⊢;refine gW (one (aX.bind_runP.1 h)) fun x hx=>?_
  refine cR (ih (aX.bind_runP.1 hx.1)) fun y hy=>⟨hy.1,fun p hp=>?_⟩
  rcases b₂.1 hp with rfl | hp
  ·exact hx.2
  ·exact hy.2 p hp
theorem Ca (hS:Seat Pg T ents) {f:FuncId} {fn:Func} {c:Code} {rs:List ResultVar} (hf:Pg.funcs[f]? =some fn) (hb:fn.body=some c) (hrs:fn.results=rs.toArray) (h5:rs.length≤6) {args:List MV} (hn:args.length≤fn.ntmps) (hN:fn.ntmps=N) {res:MV}
  (h:vC Pg T N ents G 0 c (HC T rs fun r=>r=res) (rD 0 args) [] 0):aD Pg G f args res:=by
 intro w P vals hg hP hargs
 have hSM:jD Pg T ents G w Hh:=⟨hS,fun w' h=>G.stab w w' _ hg (fun _ h=>h.elim) h,fun _ h=>h.elim,fun g h=>G.lt w g hg h⟩
 have hlen:=hargs.length
 have h0:ow N w Hh P (VE.get (rD 0 args)) (VM.get []) 0 { tmps:=vals.toArray ++ Array.replicate (fn.ntmps - vals.toArray.size) undef,defers:= [] } w:=by
  refine⟨⟨P,noAdr,⟨fun c b hc=>by simp [VM.get] at hc,fun c d b b' g hc=>by simp [VM.get] at hc,hP⟩,fun t v ht=>?_,fun _ _=>rfl,⟨fun c g hc=>(nomatch hc),fun c hc=>absurd hc (Nat.not_lt_zero c),bg.refl _ _ _⟩,fun b o h=> .inl h⟩,fun c _=>rfl,Nat.zero_le _,bl.refl _ _,rfl,by simp;omega⟩
  obtain⟨_,h2⟩:=oL ht
  rw [d₅] at h2
  obtain⟨u,h3,h4⟩:=hargs.get h2
  have hlt:=(c₁.1 h3).1
  refine⟨u,?_,h4⟩
  show(vals.toArray ++ Array.replicate (fn.ntmps - vals.toArray.size) undef)[t]? =some u
  rw [Array.getElem?_append_left (by simpa using hlt)]
  simpa using h3
 refine calls_of_wp hf hb (Code.wp_mono (fun e a w' hq=>?_) (HF (ex0:=Hh) hSM c h h0))
 obtain⟨E',M',n',hq,hs⟩:=hq
 have fin:dK T M' E' rs (fun vs=>(fh (VM.get M') vs).runP fun x=>kF x.1=res)→
   a.defers= [] ∧∃v,(results fn a.tmps).run Pg w'= .ok v w'∧∃v',Ending.returned v= .returned v'∧aI w' (gM w w' P) noAdr res v'∧Below w.heap.size w w':=by
  intro hq
  obtain⟨P',adr',hI,hE,ha1,ha2,ha3⟩:=hs.ex
  obtain⟨ps,vs,hl,hi,hr,hK⟩:=jN hS.tab hI hE hq
  obtain⟨l',bs,⟨hxr,hfree⟩,P2,h1,h2,h3,h4⟩:=pT (Fo hK) hr hI
  refine⟨hs.defers,tup vs,lr hrs h5 hl hi,tup vs,rfl,?_,hs.since.below⟩
  rw [← hxr]
  refine(xH h4 hfree).keep ⟨fun b o hp=>?_,fun _ _ _=>rfl,fun _ _ h=>(nomatch h),fun _ _ _ _ h=>nomatch h⟩
  rcases h3 b o hp with hp' | ⟨c',hc'⟩
  ·rcases ha3 b o hp' with h | h | h
   ·exact .inl h
   ·exact .inr ⟨h,hI.prot b o hp'⟩
   ·exact h.elim
  ·rcases ha2.in_ c' b hc' with h | h
   ·exact .inr ⟨h,h1.prot b o hp⟩
   ·exact h.elim
 cases e with
 | normal=>exact fin hq
 | ret=>exact fin hq
 | _=>exact hq.elim
theorem aZ (hS:Seat Pg T ents) {f:FuncId} {fn:Func} (hf:Pg.funcs[f]? =some fn) (N:Nat) {c:Code} {rs:List ResultVar} {args:List MV} {res:MV} (h:vC Pg T N ents G 0 c (HC T rs fun r=>r=res) (rD 0 args) [] 0) (hb:fn.body=some c:=by rfl) (hrs:fn.results=rs.toArray:=by rfl) (h5:rs.length≤6:=by exact Nat.le_of_ble_eq_true rfl) (hn:args.length≤fn.ntmps:=by exact Nat.le_of_ble_eq_true rfl) (hN:fn.ntmps=N:=by rfl):aD Pg G f args res:=Ca hS hf hb hrs h5 hn hN h
theorem Cb (hS:Seat Pg T ents) {f:FuncId} {fn:Func} {c:Code} {rs:List ResultVar} (hf:Pg.funcs[f]? =some fn) (hb:fn.body=some c) (hrs:fn.results=rs.toArray) (h5:rs.length≤6) {args:List MV} (hn:args.length≤fn.ntmps) (hN:fn.ntmps=N) {M0:VM} {n0:Nat} (hM0:M0.all (fun x=>a₄ x.1 n0)=true) {res:MV} {M1:VM} {n1:Nat}
  (h:vC Pg T N ents G n0 c (Mb T n0 rs res M1 n1) (rD 0 args) M0 n0):aH Pg G f args M0 n0 res M1 n1:=by
 intro w P adr vals hg hI0 hn0 hL hargs
 have hSM:jD Pg T ents G w ⟨fun g=> ∃c,adr c=some g,adr,n0,fun c g hc=>by
   rcases c₇ c n0 with h | h
   ·exact h
   ·rw [hn0 c h] at hc;cases hc⟩:=⟨hS,fun w' h=>G.stab w w' _ hg (fun g ⟨c,hc⟩=>hL c g hc) h,fun g ⟨c,hc⟩=>hL c g hc,fun g h=>G.lt w g hg h⟩
 have hlen:=hargs.length
 have h0:ow N w ⟨fun g=> ∃c,adr c=some g,adr,n0,fun c g hc=>by
   rcases c₇ c n0 with h | h
   ·exact h
   ·rw [hn0 c h] at hc;cases hc⟩ P (VE.get (rD 0 args)) (VM.get M0) n0 { tmps:=vals.toArray ++ Array.replicate (fn.ntmps - vals.toArray.size) undef,defers:= [] } w:=by
  refine⟨⟨P,adr,hI0,fun t v ht=>?_,hn0,⟨fun c g hc=> .inr ⟨c,hc⟩,fun c _=>rfl,bg.refl _ _ _⟩,fun b o h=> .inl h⟩,fun c hc=>pV hM0 hc,c₅ _,bl.refl _ _,rfl,by simp;omega⟩
  obtain⟨_,h2⟩:=oL ht
  rw [d₅] at h2
  obtain⟨u,h3,h4⟩:=hargs.get h2
  have hlt:=(c₁.1 h3).1
  refine⟨u,?_,h4⟩
  show(vals.toArray ++ Array.replicate (fn.ntmps - vals.toArray.size) undef)[t]? =some u
  rw [Array.getElem?_append_left (by simpa using hlt)]
  simpa using h3
 refine calls_of_wp hf hb (Code.wp_mono (fun e a w' hq=>?_) (HF hSM c h h0))
 obtain⟨E',M',n',hq,hs⟩:=hq
 have fin:dK T M' E' rs (fun vs=> ∃(rv:List MV) (σ bs:List (Nat×Nat)),kF rv=res∧dP n0 rv M1 n1 vs M' σ bs)→
   a.defers= [] ∧∃v,(results fn a.tmps).run Pg w'= .ok v w'∧∃v',Ending.returned v= .returned v'∧∃P' adr',aQ w' P' adr' (VM.get M1)∧aI w' P' adr' res v'∧bg w w' P P' adr adr'∧(∀c,c < n0→adr' c=adr c)∧(∀c,n1≤c→adr' c=none)∧
   (∀c g,adr' c=some g→w.heap.size≤g∨∃c0,adr c0=some g)∧(∀b o,P' b o→P b o∨w.heap.size≤b∨∃c0,adr c0=some b)∧bl (fun g=> ∃c0,adr c0=some g) w w':=by
  intro hq
  obtain⟨P1,adr1,hI,hE,ha1,ha2,ha3⟩:=hs.ex
  obtain⟨ps,vs,hl,hi,hr,rv,σ,bs,hres,hok,hokb,hall,hrel,hmm⟩:=jN hS.tab hI hE hq
  have hσ:=jE hok
  obtain⟨P2,i1,i2,i3,i4⟩:=hI.frozen hokb
  obtain⟨r1,r2⟩:=gX i4 hrel (hr.kp i2)
  have hA:=(ha2.frozen i2).matched hσ
  refine⟨hs.defers,tup vs,lr hrs h5 hl hi,tup vs,rfl,P2,eS (bZ n0 σ) adr1,i1.matched hσ i4 hmm,?_,hA.keep,fun c hc=>hA.old c hc,fun c hc=>jF hσ hc,fun c g hc=>hA.in_ c g hc,fun b o ho=>?_,hs.since⟩
  ·rw [← hres];exact xH r1 r2
  ·rcases i3 b o ho with h | ⟨c,h⟩
   ·exact ha3 b o h
   ·rcases ha2.in_ c b h with h | h
    ·exact .inr (.inl h)
    ·exact .inr (.inr h)
 cases e with
 | normal=>exact fin hq
 | ret=>exact fin hq
 | _=>exact hq.elim
theorem bR (hS:Seat Pg T ents) {f:FuncId} {fn:Func} (hf:Pg.funcs[f]? =some fn) (N:Nat) {c:Code} {rs:List ResultVar} {args:List MV} {M0:VM} {n0:Nat} {res:MV} {M1:VM} {n1:Nat} (h:vC Pg T N ents G n0 c (Mb T n0 rs res M1 n1) (rD 0 args) M0 n0) (hb:fn.body=some c:=by rfl) (hrs:fn.results=rs.toArray:=by rfl) (h5:rs.length≤6:=by exact Nat.le_of_ble_eq_true rfl) (hn:args.length≤fn.ntmps:=by exact Nat.le_of_ble_eq_true rfl) (hN:fn.ntmps=N:=by rfl) (hM0:M0.all (fun x=>Nat.blt x.1 n0)=true:=by rfl):aH Pg G f args M0 n0 res M1 n1:=Cb hS hf hb hrs h5 hn hN hM0 h
theorem gC (hS:Seat Pg T ents) {f:FuncId} {fn:Func} {c:Code} {rs:List ResultVar} (hf:Pg.funcs[f]? =some fn) (hb:fn.body=some c) (hrs:fn.results=rs.toArray) (h5:rs.length≤6) {args:List MV} (hn:args.length≤fn.ntmps) (hN:fn.ntmps=N) {M0:VM} {n0:Nat} (hM0:M0.all (fun x=>a₄ x.1 n0)=true) {Φ:MV→VM→Nat→Prop}
  (h:vC Pg T N ents G n0 c (DB T n0 rs Φ) (rD 0 args) M0 n0):vx Pg G f args M0 n0 Φ:=by
 intro w P adr vals hg hI0 hn0 hL hargs
 have hSM:jD Pg T ents G w ⟨fun g=> ∃c,adr c=some g,adr,n0,fun c g hc=>by
   rcases c₇ c n0 with h | h
   ·exact h
   ·rw [hn0 c h] at hc;cases hc⟩:=⟨hS,fun w' h=>G.stab w w' _ hg (fun g ⟨c,hc⟩=>hL c g hc) h,fun g ⟨c,hc⟩=>hL c g hc,fun g h=>G.lt w g hg h⟩
 have hlen:=hargs.length
 have h0:ow N w ⟨fun g=> ∃c,adr c=some g,adr,n0,fun c g hc=>by
   rcases c₇ c n0 with h | h
   ·exact h
   ·rw [hn0 c h] at hc;cases hc⟩ P (VE.get (rD 0 args)) (VM.get M0) n0 { tmps:=vals.toArray ++ Array.replicate (fn.ntmps - vals.toArray.size) undef,defers:= [] } w:=by
  refine⟨⟨P,adr,hI0,fun t v ht=>?_,hn0,⟨fun c g hc=> .inr ⟨c,hc⟩,fun c _=>rfl,bg.refl _ _ _⟩,fun b o h=> .inl h⟩,fun c hc=>pV hM0 hc,c₅ _,bl.refl _ _,rfl,by simp;omega⟩
  obtain⟨_,h2⟩:=oL ht
  rw [d₅] at h2
  obtain⟨u,h3,h4⟩:=hargs.get h2
  have hlt:=(c₁.1 h3).1
  refine⟨u,?_,h4⟩
  show(vals.toArray ++ Array.replicate (fn.ntmps - vals.toArray.size) undef)[t]? =some u
  rw [Array.getElem?_append_left (by simpa using hlt)]
  simpa using h3
 refine calls_of_wp hf hb (Code.wp_mono (fun e a w' hq=>?_) (HF hSM c h h0))
 obtain⟨E',M',n',hq,hs⟩:=hq
 have fin:dK T M' E' rs (fun vs=> ∃(res:MV) (M1:VM) (n1:Nat),Φ res M1 n1∧∃(rv:List MV) (σ bs:List (Nat×Nat)),kF rv=res∧dP n0 rv M1 n1 vs M' σ bs)→
   a.defers= [] ∧∃v,(results fn a.tmps).run Pg w'= .ok v w'∧∃v',Ending.returned v= .returned v'∧∃(res:MV) (M1:VM) (n1:Nat),Φ res M1 n1∧∃P' adr',aQ w' P' adr' (VM.get M1)∧aI w' P' adr' res v'∧bg w w' P P' adr adr'∧(∀c,c < n0→adr' c=adr c)∧(∀c,n1≤c→adr' c=none)∧
   (∀c g,adr' c=some g→w.heap.size≤g∨∃c0,adr c0=some g)∧(∀b o,P' b o→P b o∨w.heap.size≤b∨∃c0,adr c0=some b)∧bl (fun g=> ∃c0,adr c0=some g) w w':=by
  intro hq
  obtain⟨P1,adr1,hI,hE,ha1,ha2,ha3⟩:=hs.ex
  obtain⟨ps,vs,hl,hi,hr,res,M1,n1,hΦ,rv,σ,bs,hres,hok,hokb,hall,hrel,hmm⟩:=jN hS.tab hI hE hq
  have hσ:=jE hok
  obtain⟨P2,i1,i2,i3,i4⟩:=hI.frozen hokb
  obtain⟨r1,r2⟩:=gX i4 hrel (hr.kp i2)
  have hA:=(ha2.frozen i2).matched hσ
  refine⟨hs.defers,tup vs,lr hrs h5 hl hi,tup vs,rfl,res,M1,n1,hΦ,P2,eS (bZ n0 σ) adr1,i1.matched hσ i4 hmm,?_,hA.keep,fun c hc=>hA.old c hc,fun c hc=>jF hσ hc,fun c g hc=>hA.in_ c g hc,fun b o ho=>?_,hs.since⟩
  ·rw [← hres];exact xH r1 r2
  ·rcases i3 b o ho with h | ⟨c,h⟩
   ·exact ha3 b o h
   ·rcases ha2.in_ c b h with h | h
    ·exact .inr (.inl h)
    ·exact .inr (.inr h)
 cases e with
 | normal=>exact fin hq
 | ret=>exact fin hq
 | _=>exact hq.elim
theorem aa {f:FuncId} {args:List MV} {res:MV} (h:aD Pg G f args res):aH Pg G f args [] 0 res [] 0:=by
 intro w P adr vals hg hI hn hL hargs;have e:adr=noAdr:=by funext c;exact hn c (Nat.zero_le _)
 subst e;refine(h w P vals hg hI.prot hargs).mono ?_;rintro e w' ⟨v,rfl,h1,h2⟩;have hb:=bg.below (adr:=noAdr) hI.prot h2;refine⟨v,rfl,gM w w' P,noAdr,hI.below h2,h1,hb,fun _ _=>rfl,fun _ _=>rfl,fun c g hc=>(nomatch hc),fun b o ho=>?_,(bl.of_below h2).weak fun _ e=>e.elim⟩;rcases ho with h | h
 ·exact .inl h
 ·exact .inr (.inl h.1)
end
end
section
section
variable {Pg:Program} {T:bf} {N:Nat} {ents:List FuncId} {G:GS} {n0:Nat}
def aU (Pg:Program) (T:bf) (N:Nat) (ents:List FuncId) (G:GS) (n0:Nat) (y:Code) (Q:Exit→VK):Exit→VK:=fun e E M n=>match e with | .normal=>Rs n0 (vC Pg T N ents G n0 y Q) E M n | e=>Q e E M n
def au (id:Nat) (Q:Exit→VK):Exit→VK:=fun e E M n=>match e with | .exit i=>(bif a₆ i id then Q .normal E M n else Q (.exit i) E M n) | e=>Q e E M n
def HG (n0:Nat) {X:Type} (E':X→VE) (M':X→VM) (n':Nat) (I:X→Prop) (μ:X→Nat) (x:X) (Q:Exit→VK):Exit→VK:=fun e E1 M1 n1=>match e with | .normal=> ∃x',I x'∧μ x' < μ x∧iu n0 (E' x') (M' x') n' E1 M1 | e=>Q e E1 M1 n1
variable {Q:Exit→VK} {E:VE} {M:VM} {n:Nat} {x y c:Code} {id i:Nat}
theorem zP (h:vC Pg T N ents G n0 x (aU Pg T N ents G n0 y Q) E M n):vC Pg T N ents G n0 (.seq x y) Q E M n:=h
theorem tf (h:Q .normal E M n):vC Pg T N ents G n0 .skip Q E M n:=h
theorem oM {l:Nat} (h:Q .normal E M n):vC Pg T N ents G n0 (.label l) Q E M n:=h
theorem tg (h:Q (.exit id) E M n):vC Pg T N ents G n0 (.exit id) Q E M n:=h
theorem zQ (h:Q .ret E M n):vC Pg T N ents G n0 .ret Q E M n:=h
theorem oN (h:vC Pg T N ents G n0 c (au id Q) E M n):vC Pg T N ents G n0 (.block id c) Q E M n:=h
theorem lH {l:List Oper} (h:aj Pg T N ents G (a₅ l) l (Q .normal) E M n):vC Pg T N ents G n0 (.region id (a₅ l) false) Q E M n:=h
theorem aw {ops:Array Oper} (L:List (Nat×Bool)) (h:aG Pg T N ents G ops L [] (Q .normal) E M n):vC Pg T N ents G n0 (.region id ops true) Q E M n:=⟨L,h⟩
theorem ad {o:Operand} {t:Bool} (he:iD (VE.get E) o=some (.bool t)) (h1:t=true→vC Pg T N ents G n0 x Q E M n) (h2:t=false→vC Pg T N ents G n0 y Q E M n):vC Pg T N ents G n0 (.cond o x y) Q E M n:=by
 unfold vC;rw [he];exact⟨h1,h2⟩
theorem oO {o:Operand} (he:iD (VE.get E) o=some (.bool true)) (h:vC Pg T N ents G n0 x Q E M n):vC Pg T N ents G n0 (.cond o x y) Q E M n:=ad he (fun _=>h) (fun h=>a₃ h)
theorem oP {o:Operand} (he:iD (VE.get E) o=some (.bool false)) (h:vC Pg T N ents G n0 y Q E M n):vC Pg T N ents G n0 (.cond o x y) Q E M n:=ad he (fun h=>a₃ h) (fun _=>h)
theorem ar (X:Type) (E':X→VE) (M':X→VM) (n':Nat) (I:X→Prop) (μ:X→Nat) (x0:X) (hI:I x0) (hm:iu n0 (E' x0) (M' x0) n' E M) (h: ∀x,I x→vC Pg T N ents G n0 c (HG n0 E' M' n' I μ x Q) (E' x) (M' x) n'):vC Pg T N ents G n0 (.loop c) Q E M n:=⟨X,E',M',n',I,μ,⟨x0,hI,hm⟩,h⟩
theorem th (h:vC Pg T N ents G n0 y Q E M n):aU Pg T N ents G n0 y Q .normal E M n:=Rs.go h
structure zR (n0:Nat) {X:Type} (E':X→VE) (M':X→VM) (n':X→Nat) (I:X→Prop) (Q JQ:Exit→VK):Prop where
 nrm: ∀(p:X) {E:VE} {M:VM} {n:Nat},I p→iu n0 (E' p) (M' p) (n' p) E M→JQ .normal E M n
 ret: ∀{E:VE} {M:VM} {n:Nat},Q .ret E M n→JQ .ret E M n
 ext: ∀{i:Nat} {E:VE} {M:VM} {n:Nat},Q (.exit i) E M n→JQ (.exit i) E M n
theorem xI (X:Type) (E':X→VE) (M':X→VM) (n':X→Nat) (I:X→Prop) (h1: ∀JQ:Exit→VK,zR n0 E' M' n' I Q JQ→vC Pg T N ents G n0 c JQ E M n) (h2: ∀p,I p→vC Pg T N ents G n0 y Q (E' p) (M' p) (n' p)):vC Pg T N ents G n0 c (aU Pg T N ents G n0 y Q) E M n:=
 h1 _ ⟨fun p _ _ _ hI hm=>Rs.re _ _ _ hm (h2 p hI),fun h=>h,fun h=>h⟩
theorem rS {ops:Array Oper} {l:List Oper} (X:Type) (E':X→VE) (M':X→VM) (n':X→Nat) (I:X→Prop) (h1: ∀JQ:Exit→VK,zR n0 E' M' n' I Q JQ→aj Pg T N ents G ops l (aU Pg T N ents G n0 c JQ .normal) E M n) (h2: ∀p,I p→vC Pg T N ents G n0 y Q (E' p) (M' p) (n' p)):aj Pg T N ents G ops l (aU Pg T N ents G n0 c (aU Pg T N ents G n0 y Q) .normal) E M n:=
 h1 _ ⟨fun p _ _ _ hI hm=>Rs.re _ _ _ hm (h2 p hI),fun h=>h,fun h=>h⟩
theorem xJ (X:Type) (E':X→VE) (M':X→VM) (n':X→Nat) (I:X→Prop) (h1: ∀JQ:Exit→VK,zR n0 E' M' n' I Q JQ→vC Pg T N ents G n0 c (au id JQ) E M n) (h2: ∀p,I p→vC Pg T N ents G n0 y Q (E' p) (M' p) (n' p)):vC Pg T N ents G n0 c (au id (aU Pg T N ents G n0 y Q)) E M n:=
 h1 _ ⟨fun p _ _ _ hI hm=>Rs.re _ _ _ hm (h2 p hI),fun h=>h,fun h=>h⟩
theorem oQ {X:Type} {E':X→VE} {M':X→VM} {n':X→Nat} {I:X→Prop} {JQ:Exit→VK} (hj:zR n0 E' M' n' I Q JQ) (h:Q .ret E M n):JQ .ret E M n:=hj.ret h
theorem oR {X:Type} {E':X→VE} {M':X→VM} {n':X→Nat} {I:X→Prop} {JQ:Exit→VK} (hj:zR n0 E' M' n' I Q JQ) (h:Q (.exit i) E M n):JQ (.exit i) E M n:=hj.ext h
theorem tj (h:Q (.exit i) E M n):aU Pg T N ents G n0 y Q (.exit i) E M n:=h
theorem tm (h:Q .ret E M n):aU Pg T N ents G n0 y Q .ret E M n:=h
theorem lI (h:Q .normal E M n):au id Q .normal E M n:=h
theorem lJ (h:Q .ret E M n):au id Q .ret E M n:=h
theorem lK (hb:a₆ i id=true) (h:Q .normal E M n):au id Q (.exit i) E M n:=by
 show(bif a₆ i id then _ else _);rw [hb];exact h
theorem lL (hb:a₆ i id=false) (h:Q (.exit i) E M n):au id Q (.exit i) E M n:=by
 show(bif a₆ i id then _ else _);rw [hb];exact h
theorem oS {X:Type} {E':X→VE} {M':X→VM} {n':Nat} {I:X→Prop} {μ:X→Nat} {x:X} (h:Q (.exit i) E M n):HG n0 E' M' n' I μ x Q (.exit i) E M n:=h
theorem oT {X:Type} {E':X→VE} {M':X→VM} {n':Nat} {I:X→Prop} {μ:X→Nat} {x:X} (h:Q .ret E M n):HG n0 E' M' n' I μ x Q .ret E M n:=h
def aC (Pg:Program) (T:bf) (N:Nat) (ents:List FuncId) (G:GS) (ops:Array Oper) (o:Oper) (rest:List Oper) (K:VK) (E:VE) (M:VM) (n:Nat):Prop:=
 sN Pg T ents G o E M n fun r M n=>dF N o.dst r E fun E=>aj Pg T N ents G ops rest K E M n
def fJ:Op→Bool
 | .call c=>match c.callee with
  | .value _=>false
  | _=>true
 | _=>true
variable {ops:Array Oper} {dst:Option Tmp} {d:Tmp} {op:Op} {ty:TypeId} {pos:String} {after:Array Edge} {g:Option (Nat×Bool)} {rest:List Oper} {K:VK} {r:MV} {δ:Dl} {o:Oper} {j s:Nat} {want t:Bool}
theorem DC (h:K E M n):aj Pg T N ents G ops [] K E M n:=h
theorem zS (h:aC Pg T N ents G ops ⟨dst,op,ty,pos,after,none⟩ rest K E M n):aj Pg T N ents G ops (⟨dst,op,ty,pos,after,none⟩ :: rest) K E M n:=Rt.go h
theorem ah (hs:(ops[j]?).bind (·.dst)=some s) (hv:VE.get E s=some (.bool t)) (h1:t=want→aC Pg T N ents G ops ⟨some d,op,ty,pos,after,some (j,want)⟩ rest K ((s, .bool want) :: E) M n) (hd:a₄ d N=true)
  (h2:t= !want→aj Pg T N ents G ops rest K ((d, .undef) :: (s, .bool (!want)) :: E) M (n + 1)):aj Pg T N ents G ops (⟨some d,op,ty,pos,after,some (j,want)⟩ :: rest) K E M n:=by
 unfold aj
 refine Rt.go ?_
 unfold xt
 simp only [hs,hv]
 refine⟨h1,fun ht=>?_⟩
 unfold dF
 simp only [hd]
 exact h2 ht
theorem PN (hf:(ops[j]?).bind (·.dst)=some s∧VE.get E s=some (.bool t)∧a₄ d N=true) (h1:t=want→aC Pg T N ents G ops ⟨some d,op,ty,pos,after,some (j,want)⟩ rest K ((s, .bool want) :: E) M n) (h2:t= !want→aj Pg T N ents G ops rest K ((d, .undef) :: (s, .bool (!want)) :: E) M (n + 1)):aj Pg T N ents G ops (⟨some d,op,ty,pos,after,some (j,want)⟩ :: rest) K E M n:=ah hf.1 hf.2.1 h1 hf.2.2 h2
theorem jO (hs:(ops[j]?).bind (·.dst)=some s) (hv:VE.get E s=some (.bool want)) (h:aC Pg T N ents G ops ⟨dst,op,ty,pos,after,some (j,want)⟩ rest K ((s, .bool want) :: E) M n):aj Pg T N ents G ops (⟨dst,op,ty,pos,after,some (j,want)⟩ :: rest) K E M n:=by
 unfold aj;refine Rt.go ?_;unfold xt;simp only [hs,hv];exact⟨fun _=>h,fun ht=>by cases want <;> cases ht⟩
theorem lM (hs:(ops[j]?).bind (·.dst)=some s) (hv:VE.get E s=some (.bool (!want))) (hd:a₄ d N=true) (h:aj Pg T N ents G ops rest K ((d, .undef) :: (s, .bool (!want)) :: E) M (n + 1)):aj Pg T N ents G ops (⟨some d,op,ty,pos,after,some (j,want)⟩ :: rest) K E M n:=
 ah hs hv (fun ht=>by cases want <;> cases ht) hd (fun _=>h)
theorem lN (hs:(ops[j]?).bind (·.dst)=some s) (hv:VE.get E s=some .undef) (hd:a₄ d N=true) (h:aj Pg T N ents G ops rest K ((d, .undef) :: E) M (n + 1)):aj Pg T N ents G ops (⟨some d,op,ty,pos,after,some (j,want)⟩ :: rest) K E M n:=by
 unfold aj;refine Rt.go ?_;unfold xt;simp only [hs,hv];unfold dF;simp only [hd];exact h
theorem zT {l1 l2:List Oper} (h:aj Pg T N ents G ops (o :: d₇ l1 l2) K E M n):aj Pg T N ents G ops (d₇ (o :: l1) l2) K E M n:=h
theorem tn {l2:List Oper} (h:aj Pg T N ents G ops l2 K E M n):aj Pg T N ents G ops (d₇ [] l2) K E M n:=h
theorem HH (hq:xr T E ⟨dst,op,ty,pos,after,g⟩=none) (hv:fJ op=true) (he: ∀R:MV×Dl→Prop,R (r,δ)→(im Pg T (VE.get E) (VM.get M) n ⟨dst,op,ty,pos,after,g⟩).runP R)
  (h:dF N dst r E fun E=>aj Pg T N ents G ops rest K E (δ.app n M) (n + 1)):aC Pg T N ents G ops ⟨dst,op,ty,pos,after,g⟩ rest K E M n:=by
 unfold aC sN
 rw [hq]
 show Ma Pg T ents G _ E M n _
 cases op with
 | call c=>
  obtain⟨callee,args,ats⟩:=c
  cases callee with
  | value f=>cases hv
  | builtin b=>exact .inl (he _ h)
  | invoke r n=>exact he _ h
 | _=>exact he _ h
theorem tp {p:Prop} {E:VE} {M:VM} {o:Oper} {K:Nat→Prop} (h:p):p∨L9 Pg E M o K:= .inl h
theorem MG {b:Builtin} {args:Array Operand} {ats:Array TypeId} {k:Nat} (hl:pW Pg E M ⟨some d, .call ⟨.builtin b,args,ats⟩,ty,pos,after,g⟩=some k) (hd:a₄ d N=true) (h:aj Pg T N ents G ops rest K ((d, .int .i64 k) :: E) M (n + 1)):aC Pg T N ents G ops ⟨some d, .call ⟨.builtin b,args,ats⟩,ty,pos,after,g⟩ rest K E M n:=by
 refine .inr ⟨k,hl,?_⟩;unfold dF;simp only [hd];exact h
theorem tq (hq:xr T E ⟨some d,op,ty,pos,after,g⟩=none) (hv:fJ op=true) (he: ∀R:MV×Dl→Prop,R (r, .none)→(im Pg T (VE.get E) (VM.get M) n ⟨some d,op,ty,pos,after,g⟩).runP R) (hd:a₄ d N=true)
  (h:aj Pg T N ents G ops rest K ((d,r) :: E) M (n + 1)):aC Pg T N ents G ops ⟨some d,op,ty,pos,after,g⟩ rest K E M n:=by
 refine HH hq hv he ?_
 unfold dF
 simp only [hd]
 exact h
theorem aY (hq:xr T E ⟨some d,op,ty,pos,after,g⟩=none) (hv:fJ op=true) (he: ∀R:MV×Dl→Prop,R (r,δ)→(im Pg T (VE.get E) (VM.get M) n ⟨some d,op,ty,pos,after,g⟩).runP R) (hd:a₄ d N=true)
  (h:aj Pg T N ents G ops rest K ((d,r) :: E) (δ.app n M) (n + 1)):aC Pg T N ents G ops ⟨some d,op,ty,pos,after,g⟩ rest K E M n:=by
 refine HH hq hv he ?_
 unfold dF
 simp only [hd]
 exact h
theorem qa (hq:xr T E ⟨none,op,ty,pos,after,g⟩=none) (hv:fJ op=true) (he: ∀R:MV×Dl→Prop,R (r,δ)→(im Pg T (VE.get E) (VM.get M) n ⟨none,op,ty,pos,after,g⟩).runP R)
  (h:aj Pg T N ents G ops rest K E (δ.app n M) (n + 1)):aC Pg T N ents G ops ⟨none,op,ty,pos,after,g⟩ rest K E M n:=HH hq hv he h
theorem wj {k:Nat} {neg:Bool} (hq:xr T E ⟨some d,op,ty,pos,after,g⟩=some (k,neg)) (hd:a₄ d N=true) (h: ∀b:Bool,(b=true→k=0)→aj Pg T N ents G ops rest K ((d, .bool (bif neg then !b else b)) :: E) M (n + 1)):aC Pg T N ents G ops ⟨some d,op,ty,pos,after,g⟩ rest K E M n:=by
 unfold aC sN;rw [hq];intro b hb;unfold dF;simp only [hd];have:=h b hb;cases neg <;> exact this
section
variable {f:Operand} {args:Array Operand} {ats:Array TypeId} {f0:FuncId} {vs:List MV} {bs:List (Nat×Nat)} {res:MV}
theorem OW (hd: ∀d,dst=some d→a₄ d N=true) (h1: ∀R:FuncId×List MV×List (Nat×Nat)→Prop,R (f0,vs,bs)→(qQ E M f args.toList).runP R) (h2:ents.contains f0=true) (hc:aD Pg G f0 vs res)
  (h:aj Pg T N ents G ops rest K (match dst with | some d=>(d,res) :: E | none=>E) (VM.bump M bs) (n + 1)):aC Pg T N ents G ops ⟨dst, .call ⟨.value f,args,ats⟩,ty,pos,after,g⟩ rest K E M n:=by
 show(vw Pg T ents G _ E M n _)∨_
 refine .inl ?_
 show(qQ E M f args.toList).runP _
 refine h1 _ ?_
 show(match ents.contains f0 with | true=> ∃res,aD Pg G f0 vs res∧_ | false=>False)
 rw [h2]
 refine⟨res,hc,?_⟩
 unfold dF
 cases dst with
 | none=>exact h
 | some d=>
  simp only [hd d rfl]
  exact h
theorem KE (hd: ∀d,dst=some d→a₄ d N=true) (h1: ∀R:FuncId×List MV→Prop,R (f0,vs)→(dt E f args.toList).runP R) (h2:ents.contains f0=true) {args':List MV} {M0:VM} {n0:Nat} {M1:VM} {n1:Nat} (hc:aH Pg G f0 args' M0 n0 res M1 n1) (σ bs:List (Nat×Nat))
  (hm:dP 0 args' M0 n0 vs M σ bs) (h3:gY M σ=true) (h4:M1.all (fun x=>a₄ x.1 n1)=true) (h:aj Pg T N ents G ops rest K (match dst with | some d=>(d,cH (qS n σ) res) :: E | none=>E) (jv (qS n σ) M1 ++ iv (VM.bump M bs) σ) (n + n1)) :
  aC Pg T N ents G ops ⟨dst, .call ⟨.value f,args,ats⟩,ty,pos,after,g⟩ rest K E M n:=by
 show(vw Pg T ents G _ E M n _)∨(dt E f args.toList).runP _
 refine .inr (h1 _ ?_)
 show(match ents.contains f0 with | true=>iT Pg G vx M n f0 vs _ | false=>iT Pg G zg M n f0 vs _)
 rw [h2]
 refine⟨args',M0,n0,fun r M' n'=>r=res∧M'=M1∧n'=n1,zh (fun h k=>h.mono k) hc ⟨rfl,rfl,rfl⟩,σ,bs,hm,h3,?_⟩
 rintro _ _ _ ⟨rfl,rfl,rfl⟩
 refine⟨h4,?_⟩
 unfold dF
 cases dst with
 | none=>exact h
 | some d=>
  simp only [hd d rfl]
  exact h
theorem KF (hd: ∀d,dst=some d→a₄ d N=true) (h1: ∀R:FuncId×List MV→Prop,R (f0,vs)→(dt E f args.toList).runP R) (h2:ents.contains f0=false) {args':List MV} {M0:VM} {n0:Nat} {M1:VM} {n1:Nat} (hc:BF Pg G f0 args' M0 n0 res M1 n1) (σ bs:List (Nat×Nat))
  (hm:dP 0 args' M0 n0 vs M σ bs) (h3:gY M σ=true) (h4:M1.all (fun x=>a₄ x.1 n1)=true) (h:aj Pg T N ents G ops rest K (match dst with | some d=>(d,cH (qS n σ) res) :: E | none=>E) (jv (qS n σ) M1 ++ iv (VM.bump M bs) σ) (n + n1)) :
  aC Pg T N ents G ops ⟨dst, .call ⟨.value f,args,ats⟩,ty,pos,after,g⟩ rest K E M n:=by
 show(vw Pg T ents G _ E M n _)∨(dt E f args.toList).runP _
 refine .inr (h1 _ ?_)
 show(match ents.contains f0 with | true=>iT Pg G vx M n f0 vs _ | false=>iT Pg G zg M n f0 vs _)
 rw [h2]
 refine⟨args',M0,n0,fun r M' n'=>r=res∧M'=M1∧n'=n1,zh (fun h k=>h.mono k) hc ⟨rfl,rfl,rfl⟩,σ,bs,hm,h3,?_⟩
 rintro _ _ _ ⟨rfl,rfl,rfl⟩
 refine⟨h4,?_⟩
 unfold dF
 cases dst with
 | none=>exact h
 | some d=>
  simp only [hd d rfl]
  exact h
end
def JY (T:bf) (N:Nat) (E:VE) (o:Oper):Bool:=(match xr T E o with | none=>true | some _=>false) && (fJ o.op && (match o.dst with | some d=>a₄ d N | none=>true))
theorem fW (h:JY T N E o=true):xr T E o=none∧fJ o.op=true∧∀d,o.dst=some d→a₄ d N=true:=by
 unfold JY at h;simp only [a₀] at h;obtain⟨h1,h2,h3⟩:=h;refine⟨?_,h2,fun d hd=>?_⟩
 ·split at h1
  ·assumption
  ·cases h1
 ·rw [hd] at h3;exact h3
theorem wk (hb:JY T N E ⟨some d,op,ty,pos,after,none⟩=true) (he: ∀R:MV×Dl→Prop,R (r, .none)→(im Pg T (VE.get E) (VM.get M) n ⟨some d,op,ty,pos,after,none⟩).runP R) (h:aj Pg T N ents G ops rest K ((d,r) :: E) M (n + 1)):aj Pg T N ents G ops (⟨some d,op,ty,pos,after,none⟩ :: rest) K E M n:=
 zS (tq (fW hb).1 (fW hb).2.1 he ((fW hb).2.2 d rfl) h)
theorem tr (hb:JY T N E ⟨some d,op,ty,pos,after,none⟩=true) (he: ∀R:MV×Dl→Prop,R (r,δ)→(im Pg T (VE.get E) (VM.get M) n ⟨some d,op,ty,pos,after,none⟩).runP R) (h:aj Pg T N ents G ops rest K ((d,r) :: E) (δ.app n M) (n + 1)):aj Pg T N ents G ops (⟨some d,op,ty,pos,after,none⟩ :: rest) K E M n:=
 zS (aY (fW hb).1 (fW hb).2.1 he ((fW hb).2.2 d rfl) h)
theorem qb (hb:JY T N E ⟨none,op,ty,pos,after,none⟩=true) (he: ∀R:MV×Dl→Prop,R (r,δ)→(im Pg T (VE.get E) (VM.get M) n ⟨none,op,ty,pos,after,none⟩).runP R) (h:aj Pg T N ents G ops rest K E (δ.app n M) (n + 1)):aj Pg T N ents G ops (⟨none,op,ty,pos,after,none⟩ :: rest) K E M n:=
 zS (qa (fW hb).1 (fW hb).2.1 he h)
theorem ts (hs:(ops[j]?).bind (·.dst)=some s) (hv:VE.get E s=some (.bool want)) (hb:JY T N ((s, .bool want) :: E) ⟨some d,op,ty,pos,after,some (j,want)⟩=true) (he: ∀R:MV×Dl→Prop,R (r, .none)→(im Pg T (VE.get ((s, .bool want) :: E)) (VM.get M) n ⟨some d,op,ty,pos,after,some (j,want)⟩).runP R)
  (h:aj Pg T N ents G ops rest K ((d,r) :: (s, .bool want) :: E) M (n + 1)):aj Pg T N ents G ops (⟨some d,op,ty,pos,after,some (j,want)⟩ :: rest) K E M n:=
 jO hs hv (tq (fW hb).1 (fW hb).2.1 he ((fW hb).2.2 d rfl) h)
theorem tt {l:List Oper} (h:aj Pg T N ents G (a₅ l) l (aU Pg T N ents G n0 y Q .normal) E M n):vC Pg T N ents G n0 (.seq (.region id (a₅ l) false) y) Q E M n:=h
theorem xK (h:vC Pg T N ents G n0 y Q E M n):aj Pg T N ents G ops [] (aU Pg T N ents G n0 y Q .normal) E M n:=Rs.go h
section
variable {f:Operand} {args:Array Operand} {ats:Array TypeId} {f0:FuncId} {vs:List MV} {bs:List (Nat×Nat)} {res:MV}
theorem bQ (hd:a₄ d N=true) (h1: ∀R:FuncId×List MV→Prop,R (f0,vs)→(dt E f args.toList).runP R) (h2:ents.contains f0=true) {args':List MV} {M0:VM} {n0:Nat} {M1:VM} {n1:Nat} (hc:aH Pg G f0 args' M0 n0 res M1 n1) (σ bs:List (Nat×Nat))
  (hm:dP 0 args' M0 n0 vs M σ bs) (h3:gY M σ=true) (h4:M1.all (fun x=>a₄ x.1 n1)=true) (h:aj Pg T N ents G ops rest K ((d,cH (qS n σ) res) :: E) (jv (qS n σ) M1 ++ iv (VM.bump M bs) σ) (n + n1)) :
  aC Pg T N ents G ops ⟨some d, .call ⟨.value f,args,ats⟩,ty,pos,after,g⟩ rest K E M n:=KE (fun d' e=>by injection e with e;subst e;exact hd) h1 h2 hc σ bs hm h3 h4 h
theorem lO (hd:a₄ d N=true) (h1: ∀R:FuncId×List MV→Prop,R (f0,vs)→(dt E f args.toList).runP R) (h2:ents.contains f0=true) {args':List MV} {M0:VM} {n0:Nat} {Φ:MV→VM→Nat→Prop} (hc:vx Pg G f0 args' M0 n0 Φ) (σ bs:List (Nat×Nat))
  (hm:dP 0 args' M0 n0 vs M σ bs) (h3:gY M σ=true) (h: ∀(res:MV) (M1:VM) (n1:Nat),Φ res M1 n1→M1.all (fun x=>a₄ x.1 n1)=true∧aj Pg T N ents G ops rest K ((d,cH (qS n σ) res) :: E) (jv (qS n σ) M1 ++ iv (VM.bump M bs) σ) (n + n1)) :
  aC Pg T N ents G ops ⟨some d, .call ⟨.value f,args,ats⟩,ty,pos,after,g⟩ rest K E M n:=by
 show(vw Pg T ents G _ E M n _)∨(dt E f args.toList).runP _
 refine .inr (h1 _ ?_)
 show(match ents.contains f0 with | true=>iT Pg G vx M n f0 vs _ | false=>iT Pg G zg M n f0 vs _)
 rw [h2]
 refine⟨args',M0,n0,Φ,hc,σ,bs,hm,h3,fun r M' n' hΦ=>⟨(h r M' n' hΦ).1,?_⟩⟩
 unfold dF
 simp only [hd]
 exact(h r M' n' hΦ).2
theorem dG (hd:a₄ d N=true) (h1: ∀R:FuncId×List MV→Prop,R (f0,vs)→(dt E f args.toList).runP R) (h2:ents.contains f0=false) {args':List MV} {M0:VM} {n0:Nat} {M1:VM} {n1:Nat} (hc:BF Pg G f0 args' M0 n0 res M1 n1) (σ bs:List (Nat×Nat))
  (hm:dP 0 args' M0 n0 vs M σ bs) (h3:gY M σ=true) (h4:M1.all (fun x=>a₄ x.1 n1)=true) (h:aj Pg T N ents G ops rest K ((d,cH (qS n σ) res) :: E) (jv (qS n σ) M1 ++ iv (VM.bump M bs) σ) (n + n1)) :
  aC Pg T N ents G ops ⟨some d, .call ⟨.value f,args,ats⟩,ty,pos,after,g⟩ rest K E M n:=KF (fun d' e=>by injection e with e;subst e;exact hd) h1 h2 hc σ bs hm h3 h4 h
end
theorem qc (E':VE) (M':VM) (bs:List (Nat×Nat)) (h1:Dq M bs) (h2:M'.all (fun x=>a₄ x.1 n)=true) (h3:mE (bZ n []) (kz M bs) E' E) (h4:mM (bZ n []) (kz M bs) M' (VM.bump M bs)) (h:aj Pg T N ents G ops (o :: rest) K E' M' n):aj Pg T N ents G ops (o :: rest) K E M n:=
 Rt.re E' M' ⟨bs,h1,h2,h3,h4⟩ h
end
end
section
section
variable {Pg:Program} {T:bf} {N:Nat} {ents:List FuncId} {G:GS} {ops:Array Oper} {dst:Option Tmp} {d:Tmp} {op:Op} {ty:TypeId} {pos:String} {after:Array Edge} {g:Option (Nat×Bool)} {K:VK} {r:MV} {δ:Dl} {o:Oper} {j s k:Nat} {want t rf:Bool}
 {E:VE} {M:VM} {n:Nat} {J:List Nat→VE→VM→Prop} {L:List (Nat×Bool)} {A:List pL} {fp:List Nat}
def aO (Pg:Program) (T:bf) (N:Nat) (ents:List FuncId) (G:GS) (ops:Array Oper) (L:List (Nat×Bool)) (A:List pL) (K:VK) (k n:Nat) (rf:Bool):List Nat→VE→VM→Prop:=fun fp E M=>aG Pg T N ents G ops L (⟨k,n,rf,fp⟩ :: A) K E M (n + 1)
theorem zU (ho:fV ops A.reverse n=true) (h:K E M n):aG Pg T N ents G ops [] A K E M n:=⟨ho,h⟩
def rH:List Oper→Nat→Option Oper
 | [],_=>none
 | o :: _,0=>some o
 | _ :: l,k + 1=>rH l k
theorem xL: ∀(l:List Oper) (k:Nat),l[k]? =rH l k
 | [],_=>by simp [rH]
 | o :: _,0=>rfl
 | o :: l,k + 1=>by simp [rH,xL l k]
theorem kG {l:List Oper} (ho:rH l k=some o) (h:rG Pg T N ents G (a₅ l) rf o (aO Pg T N ents G (a₅ l) L A K k n rf) E M n):aG Pg T N ents G (a₅ l) ((k,rf) :: L) A K E M n:=by
 unfold aG;have e:(a₅ l)[k]? =some o:=by rw [← ho,← xL];simp
 simp only [e];exact h
theorem tu {l:List Oper} (ho:rH l k=none) (h:aG Pg T N ents G (a₅ l) L A K E M (n + 1)):aG Pg T N ents G (a₅ l) ((k,rf) :: L) A K E M n:=by
 unfold aG;have e:(a₅ l)[k]? =none:=by rw [← ho,← xL];simp
 simp only [e];exact h
theorem tw (h:aG Pg T N ents G ops L (⟨k,n,rf,fp⟩ :: A) K E M (n + 1)):aO Pg T N ents G ops L A K k n rf fp E M:=h
def aL (Pg:Program) (T:bf) (N:Nat) (ents:List FuncId) (G:GS) (rf:Bool) (o:Oper) (J:List Nat→VE→VM→Prop) (E:VE) (M:VM) (n:Nat):Prop:=oJ Pg T ents G rf o E M n fun r M fp=>dF N o.dst r E fun E=>J fp E M
theorem zV (h:aL Pg T N ents G rf ⟨dst,op,ty,pos,after,none⟩ J E M n):rG Pg T N ents G ops rf ⟨dst,op,ty,pos,after,none⟩ J E M n:=h
theorem gO (hs:(ops[j]?).bind (·.dst)=some s) (hv:VE.get E s=some (.bool t)) (h1:t=want→aL Pg T N ents G rf ⟨some d,op,ty,pos,after,some (j,want)⟩ J ((s, .bool want) :: E) M n) (hd:a₄ d N=true)
  (h2:t= !want→J (bif rf then [] else numsO (VE.get E) op.operands.toList) ((d, .undef) :: (s, .bool (!want)) :: E) M):rG Pg T N ents G ops rf ⟨some d,op,ty,pos,after,some (j,want)⟩ J E M n:=by
 unfold rG
 simp only [hs,hv]
 refine⟨h1,fun ht=>?_⟩
 unfold dF
 simp only [hd]
 exact h2 ht
theorem jP (hs:(ops[j]?).bind (·.dst)=some s) (hv:VE.get E s=some (.bool want)) (h:aL Pg T N ents G rf ⟨dst,op,ty,pos,after,some (j,want)⟩ J ((s, .bool want) :: E) M n):rG Pg T N ents G ops rf ⟨dst,op,ty,pos,after,some (j,want)⟩ J E M n:=by
 unfold rG;simp only [hs,hv];exact⟨fun _=>h,fun ht=>by cases want <;> cases ht⟩
theorem lP (hs:(ops[j]?).bind (·.dst)=some s) (hv:VE.get E s=some (.bool (!want))) (hd:a₄ d N=true) (h:J (bif rf then [] else numsO (VE.get E) op.operands.toList) ((d, .undef) :: (s, .bool (!want)) :: E) M):rG Pg T N ents G ops rf ⟨some d,op,ty,pos,after,some (j,want)⟩ J E M n:=
 gO hs hv (fun ht=>by cases want <;> cases ht) hd (fun _=>h)
theorem lQ (hs:(ops[j]?).bind (·.dst)=some s) (hv:VE.get E s=some .undef) (hd:a₄ d N=true) (h:J (bif rf then [] else numsO (VE.get E) op.operands.toList) ((d, .undef) :: E) M):rG Pg T N ents G ops rf ⟨some d,op,ty,pos,after,some (j,want)⟩ J E M n:=by
 unfold rG;simp only [hs,hv];unfold dF;simp only [hd];exact h
theorem Cc (hv:fJ op=true) (he: ∀R:MV×Dl→Prop,R (r,δ)→(im Pg T (VE.get E) (VM.get M) n ⟨dst,op,ty,pos,after,g⟩).runP R)
  (h:dF N dst r E fun E2=>J (numsO (VE.get E) op.operands.toList) E2 (δ.app n M)):aL Pg T N ents G false ⟨dst,op,ty,pos,after,g⟩ J E M n:=by
 unfold aL oJ vw
 dsimp only
 cases op with
 | call c=>
  obtain⟨callee,args,ats⟩:=c
  cases callee with
  | value f=>cases hv
  | builtin b=>exact he _ h
  | invoke r n=>exact he _ h
 | _=>exact he _ h
theorem nN (hv:fJ op=true) (he: ∀R:MV×Dl→Prop,R (r, .none)→(im Pg T (VE.get E) (VM.get M) n ⟨some d,op,ty,pos,after,g⟩).runP R) (hd:a₄ d N=true)
  (h:J (numsO (VE.get E) op.operands.toList) ((d,r) :: E) M):aL Pg T N ents G false ⟨some d,op,ty,pos,after,g⟩ J E M n:=by
 refine Cc hv he ?_
 unfold dF
 simp only [hd]
 exact h
theorem bO (hv:fJ op=true) (he: ∀R:MV×Dl→Prop,R (r,δ)→(im Pg T (VE.get E) (VM.get M) n ⟨some d,op,ty,pos,after,g⟩).runP R) (hd:a₄ d N=true)
  (h:J (numsO (VE.get E) op.operands.toList) ((d,r) :: E) (δ.app n M)):aL Pg T N ents G false ⟨some d,op,ty,pos,after,g⟩ J E M n:=by
 refine Cc hv he ?_
 unfold dF
 simp only [hd]
 exact h
theorem mO (hv:fJ op=true) (he: ∀R:MV×Dl→Prop,R (r,δ)→(im Pg T (VE.get E) (VM.get M) n ⟨none,op,ty,pos,after,g⟩).runP R)
  (h:J (numsO (VE.get E) op.operands.toList) E (δ.app n M)):aL Pg T N ents G false ⟨none,op,ty,pos,after,g⟩ J E M n:=Cc hv he h
theorem wm {l:List Oper} (ho:rH l k=some ⟨some d,op,ty,pos,after,none⟩) (hb:(fJ op && a₄ d N)=true) (he: ∀R:MV×Dl→Prop,R (r, .none)→(im Pg T (VE.get E) (VM.get M) n ⟨some d,op,ty,pos,after,none⟩).runP R)
  (h:aG Pg T N ents G (a₅ l) L (⟨k,n,false,numsO (VE.get E) op.operands.toList⟩ :: A) K ((d,r) :: E) M (n + 1)):aG Pg T N ents G (a₅ l) ((k,false) :: L) A K E M n:=by
 rw [a₀] at hb
 exact kG ho (zV (nN hb.1 he hb.2 h))
theorem zW {l:List Oper} (ho:rH l k=some ⟨some d,op,ty,pos,after,none⟩) (hb:(fJ op && a₄ d N)=true) (he: ∀R:MV×Dl→Prop,R (r,δ)→(im Pg T (VE.get E) (VM.get M) n ⟨some d,op,ty,pos,after,none⟩).runP R)
  (h:aG Pg T N ents G (a₅ l) L (⟨k,n,false,numsO (VE.get E) op.operands.toList⟩ :: A) K ((d,r) :: E) (δ.app n M) (n + 1)):aG Pg T N ents G (a₅ l) ((k,false) :: L) A K E M n:=by
 rw [a₀] at hb
 exact kG ho (zV (bO hb.1 he hb.2 h))
theorem qd {l:List Oper} (ho:rH l k=some ⟨none,op,ty,pos,after,none⟩) (hb:fJ op=true) (he: ∀R:MV×Dl→Prop,R (r,δ)→(im Pg T (VE.get E) (VM.get M) n ⟨none,op,ty,pos,after,none⟩).runP R)
  (h:aG Pg T N ents G (a₅ l) L (⟨k,n,false,numsO (VE.get E) op.operands.toList⟩ :: A) K E (δ.app n M) (n + 1)):aG Pg T N ents G (a₅ l) ((k,false) :: L) A K E M n:=
 kG ho (zV (mO hb he h))
theorem tz {l:List Oper} (ho:rH l k=some ⟨some d,op,ty,pos,after,some (j,want)⟩) (hs:((a₅ l)[j]?).bind (·.dst)=some s) (hv:VE.get E s=some (.bool want)) (hb:(fJ op && a₄ d N)=true) (he: ∀R:MV×Dl→Prop,R (r, .none)→(im Pg T (VE.get ((s, .bool want) :: E)) (VM.get M) n ⟨some d,op,ty,pos,after,some (j,want)⟩).runP R)
  (h:aG Pg T N ents G (a₅ l) L (⟨k,n,false,numsO (VE.get ((s, .bool want) :: E)) op.operands.toList⟩ :: A) K ((d,r) :: (s, .bool want) :: E) M (n + 1)):aG Pg T N ents G (a₅ l) ((k,false) :: L) A K E M n:=by
 rw [a₀] at hb
 exact kG ho (jP hs hv (nN hb.1 he hb.2 h))
section
variable {f:Operand} {args:Array Operand} {ats:Array TypeId} {f0:FuncId} {vs:List MV} {bs:List (Nat×Nat)} {res:MV}
theorem N9 (hd: ∀d,dst=some d→a₄ d N=true) (h1: ∀R:FuncId×List MV×List (Nat×Nat)→Prop,R (f0,vs,bs)→(qQ E M f args.toList).runP R) (h2:ents.contains f0=true) (hc:aD Pg G f0 vs res)
  (h:J (numsO (VE.get E) (Op.call ⟨.value f,args,ats⟩).operands.toList) (match dst with | some d=>(d,res) :: E | none=>E) (VM.bump M bs)):aL Pg T N ents G false ⟨dst, .call ⟨.value f,args,ats⟩,ty,pos,after,g⟩ J E M n:=by
 show(qQ E M f args.toList).runP _
 refine h1 _ ?_
 show(match ents.contains f0 with | true=> ∃res,aD Pg G f0 vs res∧_ | false=>False)
 rw [h2]
 refine⟨res,hc,?_⟩
 unfold dF
 cases dst with
 | none=>exact h
 | some d=>
  simp only [hd d rfl]
  exact h
theorem HI (hd: ∀d,dst=some d→a₄ d N=true) (h1: ∀R:FuncId×List MV→Prop,R (f0,vs)→(dt E f args.toList).runP R) (h2:ents.contains f0=true) (fp:List Nat) {args':List MV} {M0:VM} {n0:Nat} {M1:VM} {n1:Nat} (hc:aH Pg G f0 args' M0 n0 res M1 n1) (σ bs:List (Nat×Nat))
  (hm:dP 0 args' M0 n0 vs M σ bs) (h3:gY M σ=true) (h4:vU σ n0 n1 M1=true) (h7:E3 n n0 n1 fp=true) (h5:vy (σ.map (·.2)) fp=true) (h6:vy (bs.map (·.1)) fp=true)
  (h:J fp (match dst with | some d=>(d,cH (gy n0 n σ) res) :: E | none=>E) (jv (gy n0 n σ) M1 ++ iv (VM.bump M bs) σ)):aL Pg T N ents G true ⟨dst, .call ⟨.value f,args,ats⟩,ty,pos,after,g⟩ J E M n:=by
 show(dt E f args.toList).runP _
 refine h1 _ ?_
 show(match ents.contains f0 with | true=> ∃fp,lE Pg G M n f0 vs fp _ | false=>False)
 rw [h2]
 refine⟨fp,args',M0,n0,res,M1,n1,hc,σ,bs,hm,h3,h4,h7,h5,h6,?_⟩
 unfold dF
 cases dst with
 | none=>exact h
 | some d=>
  simp only [hd d rfl]
  exact h
theorem bG (hd:a₄ d N=true) (h1: ∀R:FuncId×List MV→Prop,R (f0,vs)→(dt E f args.toList).runP R) (h2:ents.contains f0=true) (fp:List Nat) {args':List MV} {M0:VM} {n0:Nat} {M1:VM} {n1:Nat} (hc:aH Pg G f0 args' M0 n0 res M1 n1) (σ bs:List (Nat×Nat))
  (hm:dP 0 args' M0 n0 vs M σ bs) (h3:gY M σ=true) (h4:vU σ n0 n1 M1=true) (h7:E3 n n0 n1 fp=true) (h5:vy (σ.map (·.2)) fp=true) (h6:vy (bs.map (·.1)) fp=true)
  (h:J fp ((d,cH (gy n0 n σ) res) :: E) (jv (gy n0 n σ) M1 ++ iv (VM.bump M bs) σ)):aL Pg T N ents G true ⟨some d, .call ⟨.value f,args,ats⟩,ty,pos,after,g⟩ J E M n:=HI (fun d' e=>by injection e with e;subst e;exact hd) h1 h2 fp hc σ bs hm h3 h4 h7 h5 h6 h
end
end
end
section
mutual
def dH:MV→Bool
 | .tup l=>qe l
 | .undef=>true
 | m=>m.idFree
def qe:List MV→Bool
 | [] =>true
 | m :: l=>dH m && qe l
end
theorem qf {ρ:Nat→Nat}: ∀m:MV,m.idFree=true→cH ρ m=m
 | .st l,h=>by
  have h:MV.idFrees l=true:=h
  simp only [cH,h,cond_true]
 | .fn f l,h=>by
  have h:MV.idFrees l=true:=h
  simp only [cH,h,cond_true]
 | .ifc t v,h=>by
  have h:MV.idFree v=true:=h
  simp only [cH,h,cond_true]
 | .ptr ..,h=>by cases h
 | .ms ..,h=>by cases h
 | .tup ..,h=>by cases h
 | .undef,h=>by cases h
 | .mp _,h=>by cases h
 | .mpv ..,h=>by cases h
 | .int ..,_=>by simp only [cH]
 | .bool ..,_=>by simp only [cH]
 | .str ..,_=>by simp only [cH]
 | .nilp,_=>by simp only [cH]
 | .gp ..,_=>by simp only [cH]
 | .ep ..,_=>by simp only [cH]
 | .sl ..,_=>by simp only [cH]
 | .nils,_=>by simp only [cH]
 | .nilf,_=>by simp only [cH]
 | .nili,_=>by simp only [cH]
 | .arr ..,_=>by simp only [cH]
mutual
theorem iU {ρ:Nat→Nat}: ∀m:MV,dH m=true→cH ρ m=m
 | .tup l,h=>by
  simp only [dH] at h
  simp only [cH,qW l h]
 | .undef,_=>by simp only [cH]
 | .st l,h=>qf _ (by simpa only [dH] using h)
 | .fn f l,h=>qf _ (by simpa only [dH] using h)
 | .ifc t v,h=>qf _ (by simpa only [dH] using h)
 | .ptr ..,h=>by simp only [dH] at h;cases h
 | .ms ..,h=>by simp only [dH] at h;cases h
 | .mp _,h=>by simp only [dH] at h;cases h
 | .mpv ..,h=>by simp only [dH] at h;cases h
 | .int ..,_=>by simp only [cH]
 | .bool ..,_=>by simp only [cH]
 | .str ..,_=>by simp only [cH]
 | .nilp,_=>by simp only [cH]
 | .gp ..,_=>by simp only [cH]
 | .ep ..,_=>by simp only [cH]
 | .sl ..,_=>by simp only [cH]
 | .nils,_=>by simp only [cH]
 | .nilf,_=>by simp only [cH]
 | .nili,_=>by simp only [cH]
 | .arr ..,_=>by simp only [cH]
theorem qW {ρ:Nat→Nat}: ∀l:List MV,qe l=true→renVs ρ l=l
 | [],_=>by simp only [renVs]
 | m :: l,h=>by
  simp only [qe,a₀] at h
  simp only [renVs,iU m h.1,qW l h.2]
end
section
variable {Pg:Program} {T:bf} {N:Nat} {ents:List FuncId} {G:GS} {ops:Array Oper} {d:Tmp} {ty:TypeId} {pos:String} {after:Array Edge} {g:Option (Nat×Bool)} {rest:List Oper} {K:VK} {E:VE} {M:VM} {n:Nat}
 {f:Operand} {args:Array Operand} {ats:Array TypeId} {f0:FuncId} {vs:List MV} {res:MV} {J:List Nat→VE→VM→Prop}
theorem bV (hd:a₄ d N=true) (h1: ∀R:FuncId×List MV→Prop,R (f0,vs)→(dt E f args.toList).runP R) (h2:ents.contains f0=true) {args':List MV} (hc:aH Pg G f0 args' [] 0 res [] 0) (hf:dH res=true) (bs:List (Nat×Nat)) (hb:Dq M bs)
  (hm:cN.relVs (bZ 0 []) (kz M bs) args' vs) (h:aj Pg T N ents G ops rest K ((d,res) :: E) (VM.bump M bs) n):aC Pg T N ents G ops ⟨some d, .call ⟨.value f,args,ats⟩,ty,pos,after,g⟩ rest K E M n:=by
 refine bQ hd h1 h2 hc [] bs ⟨rfl,hb,rfl,hm,trivial⟩ rfl rfl ?_
 rw [iU res hf]
 exact h
theorem rT (hd:a₄ d N=true) (h1: ∀R:FuncId×List MV→Prop,R (f0,vs)→(dt E f args.toList).runP R) (h2:ents.contains f0=true) {args':List MV} (hc:aH Pg G f0 args' [] 0 res [] 0) (hf:dH res=true)
  (hm:cN.relVs (bZ 0 []) (kz M []) args' vs) (h:aj Pg T N ents G ops rest K ((d,res) :: E) M n):aC Pg T N ents G ops ⟨some d, .call ⟨.value f,args,ats⟩,ty,pos,after,g⟩ rest K E M n:=
 bV hd h1 h2 hc hf [] trivial hm h
theorem jQ (hd:a₄ d N=true) (h1: ∀R:FuncId×List MV→Prop,R (f0,vs)→(dt E f args.toList).runP R) (h2:ents.contains f0=true) (fp:List Nat) {args':List MV} (hc:aH Pg G f0 args' [] 0 res [] 0) (hf:dH res=true) (bs:List (Nat×Nat)) (hb:Dq M bs)
  (hm:cN.relVs (bZ 0 []) (kz M bs) args' vs) (h6:vy (bs.map (·.1)) fp=true) (h:J fp ((d,res) :: E) (VM.bump M bs)):aL Pg T N ents G true ⟨some d, .call ⟨.value f,args,ats⟩,ty,pos,after,g⟩ J E M n:=by
 refine bG hd h1 h2 fp hc [] bs ⟨rfl,hb,rfl,hm,trivial⟩ rfl rfl rfl rfl h6 ?_
 rw [iU res hf]
 exact h
end
end
section
section
variable {Pg:Program} {T:bf} {E:VE} {M:VM} {n:Nat} {dst:Option Tmp} {t ty:TypeId} {pos:String} {after:Array Edge} {g:Option (Nat×Bool)} {R:MV×Dl→Prop} {x y:Operand} {c es k fo:Nat} {path:List Nat} {b:MB} {m m' r v:MV} {d:TD}
def Fq (T:bf) (t:TypeId) (es' es:Nat) (r:MV):Bool:=match bf.find T t with | some d=>a₆ es' es && dX d r | none=>false
def HJ (T:bf) (t:TypeId) (es' es:Nat) (row:Bool) (v:MV):Bool:=match bf.find T t with | some d=>a₆ es' es && dX d v && (!row || v.idFree) | none=>false
def xM:MV→List Nat→Option MV
 | m,[] =>some m
 | .st l,i :: p=>match bH l i with
  | some m=>xM m p
  | none=>none
 | .arr _ _ l,i :: p=>match bH l i with
  | some m=>xM m p
  | none=>none
 | _,_ :: _=>none
def KG:MV→List Nat→Nat→Bool
 | _,[],fo=>a₆ fo 0
 | .st l,i :: p,fo=>match bH l i with
  | some m=>c₈ (ew l i) fo && KG m p (fo - ew l i)
  | none=>false
 | .arr _ es l,i :: p,fo=>match bH l i with
  | some m=>c₈ (i * es) fo && KG m p (fo - i * es)
  | none=>false
 | _,_ :: _,_=>false
theorem lR: ∀{p:List Nat} {m:MV} {fo:Nat},KG m p fo=true→fb m p fo=xM m p
 | [],m,fo,h=>by
  have h':a₆ fo 0=true:=by unfold KG at h;exact h
  unfold fb xM
  rw [h']
  rfl
 | i :: p,m,fo,h=>by
  unfold KG at h
  unfold fb xM
  split at h
  ·exact nomatch ‹i :: p= []›
  ·rename_i heq
   injection heq with h1 h2
   subst h1 h2
   dsimp only
   split at h
   ·rename_i hn
    rw [a₀] at h
    rw [hn]
    dsimp only
    rw [h.1]
    exact lR h.2
   ·exact a₃ h
  ·rename_i heq
   injection heq with h1 h2
   subst h1 h2
   dsimp only
   split at h
   ·rename_i hn
    rw [a₀] at h
    rw [hn]
    dsimp only
    rw [h.1]
    exact lR h.2
   ·exact a₃ h
  ·exact a₃ h
def zX:MV→List Nat→MV→Option MV
 | _,[],v=>some v
 | .st l,i :: p,v=>match bH l i with
  | some m=>(match zX m p v with | some m'=>some (.st (setL l i m')) | none=>none)
  | none=>none
 | .arr n es l,i :: p,v=>match bH l i with
  | some m=>(match zX m p v with | some m'=>some (.arr n es (setL l i m')) | none=>none)
  | none=>none
 | _,_ :: _,_=>none
def qX:MV→List Nat→Nat→MV→Bool
 | m,[],fo,v=>(a₆ fo 0 && a₆ v.size m.size) && Kh v.isAgg m.isAgg
 | .st l,i :: p,fo,v=>match bH l i with
  | some m=>c₈ (ew l i) fo && qX m p (fo - ew l i) v
  | none=>false
 | .arr _ es l,i :: p,fo,v=>match bH l i with
  | some m=>(c₈ (i * es) fo && v.idFree) && qX m p (fo - i * es) v
  | none=>false
 | _,_ :: _,_,_=>false
theorem lS: ∀{p:List Nat} {m:MV} {fo:Nat} {v:MV},qX m p fo v=true→fL m p fo v=zX m p v
 | [],m,fo,v,h=>by
  have h':((a₆ fo 0 && a₆ v.size m.size) && Kh v.isAgg m.isAgg)=true:=by unfold qX at h;exact h
  rw [a₀] at h'
  unfold fL zX
  rw [h'.1]
  have h2:=h'.2
  generalize v.isAgg=a at *
  generalize m.isAgg=b at *
  cases a <;> cases b <;> first | rfl | exact a₃ h2
 | i :: p,m,fo,v,h=>by
  unfold qX at h
  unfold fL zX
  split at h
  ·exact nomatch ‹i :: p= []›
  ·rename_i heq
   injection heq with h1 h2
   subst h1 h2
   dsimp only
   split at h
   ·rename_i hn
    rw [a₀] at h
    rw [hn]
    dsimp only
    rw [h.1,lS h.2]
    rfl
   ·exact a₃ h
  ·rename_i heq
   injection heq with h1 h2
   subst h1 h2
   dsimp only
   split at h
   ·rename_i hn
    rw [a₀] at h
    rw [hn]
    dsimp only
    rw [h.1,lS h.2]
    rfl
   ·exact a₃ h
  ·exact a₃ h
theorem xN (hp:iD (VE.get E) x=some (.ptr c es k fo path)) (hc:VM.get M c=some b) (hm:bH b.l k=some m) (hr:fb m path fo=some r) (hk:Fq T t b.es es r=true) (hR:R (r, .none)):(im Pg T (VE.get E) (VM.get M) n ⟨dst, .load t x,ty,pos,after,g⟩).runP R:=by
 show(rd (VE.get E) x fun p=>fS T (VM.get M) t p).runP R
 unfold rd;rw [hp];unfold Fq at hk
 show(fS T (VM.get M) t (.ptr c es k fo path)).runP R
 unfold fS;cases ht:bf.find T t with
 | none=>rw [ht] at hk;exact a₃ hk
 | some d=>
  rw [ht] at hk;simp only [a₀] at hk;simp only [hc,hk.1,cond_true];refine⟨m,hm,r,hr,?_⟩;simp only [hk.2,cond_true];exact hR
theorem tC (hp:iD (VE.get E) x=some (.ptr c es k fo path)) (hy:iD (VE.get E) y=some v) (hc:VM.get M c=some b) (hpe:b.pe≤k) (hm:bH b.l k=some m) (hs:fL m path fo v=some m') (hk:HJ T t b.es es b.row v=true) (hR:R (.undef, .upd c (setL b.l k m'))):(im Pg T (VE.get E) (VM.get M) n ⟨dst, .store t x y,ty,pos,after,g⟩).runP R:=by
 show(rd (VE.get E) x fun p=>rd (VE.get E) y fun v=>ff T (VM.get M) t p v).runP R
 unfold rd;rw [hp];dsimp only;rw [hy];unfold HJ at hk
 show(ff T (VM.get M) t (.ptr c es k fo path) v).runP R
 unfold ff;cases ht:bf.find T t with
 | none=>rw [ht] at hk;exact a₃ hk
 | some d=>
  rw [ht] at hk;simp only [hc];have hk':(a₆ b.es es && dX d v && (!b.row || v.idFree))=true:=hk;rw [hk'];exact⟨hpe,m,hm,m',hs,_,rfl,hR⟩
theorem tD (hx:iD (VE.get E) x=some v) (ht:bf.find T t=some d) (hk:dX d v=true) (hR:R (.ptr n d.size 0 0 [], .new ⟨t,d.size,false,0,[v]⟩)):(im Pg T (VE.get E) (VM.get M) n ⟨dst, .box t x,ty,pos,after,g⟩).runP R:=by
 show(rd (VE.get E) x fun v=>yT T n t v).runP R
 unfold rd;rw [hx]
 show(yT T n t v).runP R
 unfold yT;rw [ht];simp only [hk,cond_true];exact hR
theorem lT (ht:bf.find T t=some d) (hz:gl T 9 t=some v) (hk:dX d v=true) (hR:R (.ptr n d.size 0 0 [], .new ⟨t,d.size,false,0,[v]⟩)):(im Pg T (VE.get E) (VM.get M) n ⟨dst, .alloc t,ty,pos,after,g⟩).runP R:=by
 show(ko T n t).runP R
 unfold ko;rw [ht,hz];simp only [hk,cond_true];exact hR
theorem lU (hp:iD (VE.get E) x=some (.ptr c es k fo path)) (hc:VM.get M c=some b) (hm:bH b.l k=some m) (hr:xM m path=some r) (hk:(Fq T t b.es es r && KG m path fo)=true) (hR:R (r, .none)):(im Pg T (VE.get E) (VM.get M) n ⟨dst, .load t x,ty,pos,after,g⟩).runP R:=by
 rw [a₀] at hk;exact xN hp hc hm ((lR hk.2).trans hr) hk.1 hR
theorem mP (hp:iD (VE.get E) x=some (.ptr c es k fo path)) (hy:iD (VE.get E) y=some v) (hc:VM.get M c=some b) (hpe:b.pe≤k) (hm:bH b.l k=some m) (hs:zX m path v=some m') (hk:(HJ T t b.es es b.row v && qX m path fo v)=true) (hR:R (.undef, .upd c (setL b.l k m'))):(im Pg T (VE.get E) (VM.get M) n ⟨dst, .store t x y,ty,pos,after,g⟩).runP R:=by
 rw [a₀] at hk;exact tC hp hy hc hpe hm ((lS hk.2).trans hs) hk.1 hR
variable {N:Nat} {ents:List FuncId} {G:GS} {ops:Array Oper} {rest:List Oper} {K:VK} {dd:Tmp}
theorem tE (hp:iD (VE.get E) x=some (.ptr c es k fo path)) (hc:VM.get M c=some b) (hm:bH b.l k=some m) (hr:xM m path=some r) (hk:((JY T N E ⟨some dd, .load t x,ty,pos,after,none⟩ && Fq T t b.es es r) && KG m path fo)=true) (h:aj Pg T N ents G ops rest K ((dd,r) :: E) M (n + 1)):aj Pg T N ents G ops (⟨some dd, .load t x,ty,pos,after,none⟩ :: rest) K E M n:=by
 rw [a₀,a₀] at hk;exact wk hk.1.1 (fun R hR=>xN hp hc hm ((lR hk.2).trans hr) hk.1.2 hR) h
theorem oU (hp:iD (VE.get E) x=some (.ptr c es k fo path)) (hy:iD (VE.get E) y=some v) (hc:VM.get M c=some b) (hpe:b.pe≤k) (hm:bH b.l k=some m) (hs:zX m path v=some m') (hk:((JY T N E ⟨none, .store t x y,ty,pos,after,none⟩ && HJ T t b.es es b.row v) && qX m path fo v)=true) (h:aj Pg T N ents G ops rest K E (Dl.app n (.upd c (setL b.l k m')) M) (n + 1)):aj Pg T N ents G ops (⟨none, .store t x y,ty,pos,after,none⟩ :: rest) K E M n:=by
 rw [a₀,a₀] at hk;exact qb hk.1.1 (fun R hR=>tC hp hy hc hpe hm ((lS hk.2).trans hs) hk.1.2 hR) h
theorem tF {l:List Oper} {q:Nat} {L:List (Nat×Bool)} {A:List pL} (ho:rH l q=some ⟨some dd, .load t x,ty,pos,after,none⟩) (hp:iD (VE.get E) x=some (.ptr c es k fo path)) (hc:VM.get M c=some b) (hm:bH b.l k=some m) (hr:xM m path=some r) (hk:((a₄ dd N && Fq T t b.es es r) && KG m path fo)=true) (h:aG Pg T N ents G (a₅ l) L (⟨q,n,false,numsO (VE.get E) (Op.load t x).operands.toList⟩ :: A) K ((dd,r) :: E) M (n + 1)):aG Pg T N ents G (a₅ l) ((q,false) :: L) A K E M n:=by
 rw [a₀,a₀] at hk;exact wm ho (by rw [show fJ (Op.load t x)=true from rfl,Bool.true_and];exact hk.1.1) (fun R hR=>xN hp hc hm ((lR hk.2).trans hr) hk.1.2 hR) h
theorem oV {l:List Oper} {q:Nat} {L:List (Nat×Bool)} {A:List pL} (ho:rH l q=some ⟨none, .store t x y,ty,pos,after,none⟩) (hp:iD (VE.get E) x=some (.ptr c es k fo path)) (hy:iD (VE.get E) y=some v) (hc:VM.get M c=some b) (hpe:b.pe≤k) (hm:bH b.l k=some m) (hs:zX m path v=some m') (hk:(HJ T t b.es es b.row v && qX m path fo v)=true) (h:aG Pg T N ents G (a₅ l) L (⟨q,n,false,numsO (VE.get E) (Op.store t x y).operands.toList⟩ :: A) K E (Dl.app n (.upd c (setL b.l k m')) M) (n + 1)):aG Pg T N ents G (a₅ l) ((q,false) :: L) A K E M n:=by
 rw [a₀] at hk;exact qd ho rfl (fun R hR=>tC hp hy hc hpe hm ((lS hk.2).trans hs) hk.1 hR) h
theorem zY (hx:iD (VE.get E) x=some v) (ht:bf.find T t=some d) (hk:(JY T N E ⟨some dd, .box t x,ty,pos,after,none⟩ && dX d v)=true) (h:aj Pg T N ents G ops rest K ((dd, .ptr n d.size 0 0 []) :: E) (Dl.app n (.new ⟨t,d.size,false,0,[v]⟩) M) (n + 1)):aj Pg T N ents G ops (⟨some dd, .box t x,ty,pos,after,none⟩ :: rest) K E M n:=by
 rw [a₀] at hk;exact tr hk.1 (fun R hR=>tD hx ht hk.2 hR) h
theorem oW (ht:bf.find T t=some d) (hz:gl T 9 t=some v) (hk:(JY T N E ⟨some dd, .alloc t,ty,pos,after,none⟩ && dX d v)=true) (h:aj Pg T N ents G ops rest K ((dd, .ptr n d.size 0 0 []) :: E) (Dl.app n (.new ⟨t,d.size,false,0,[v]⟩) M) (n + 1)):aj Pg T N ents G ops (⟨some dd, .alloc t,ty,pos,after,none⟩ :: rest) K E M n:=by
 rw [a₀] at hk;exact tr hk.1 (fun R hR=>lT ht hz hk.2 hR) h
end
section
mutual
def Fs:MV→Bool
 | .int _ _=>true
 | .bool _=>true
 | .str _=>true
 | .nilp=>true
 | .arr .. =>true
 | .sl .. =>true
 | .st l=>qY l
 | _=>false
def qY:List MV→Bool
 | [] =>true
 | m :: l=>bif Fs m then qY l else false
end
mutual
theorem KH {M:FM}: ∀{v:MV} {K:MV×List (Nat×Nat)→Prop},Fs v=true→K (v,[])→(cM M v).runP K
 | .int _ _,_,_,h=>h
 | .bool _,_,_,h=>h
 | .str _,_,_,h=>h
 | .nilp,_,_,h=>h
 | .nilf,_,hc,_=>a₃ hc
 | .nili,_,hc,_=>a₃ hc
 | .arr ..,_,_,h=>h
 | .sl ..,_,_,h=>h
 | .st l,_,hc,h=>tG (v:=l) hc h
 | .nils,_,hc,_=>a₃ hc
 | .ptr ..,_,hc,_=>a₃ hc
 | .gp ..,_,hc,_=>a₃ hc
 | .ep ..,_,hc,_=>a₃ hc
 | .ms ..,_,hc,_=>a₃ hc
 | .fn ..,_,hc,_=>a₃ hc
 | .ifc ..,_,hc,_=>a₃ hc
 | .tup _,_,hc,_=>a₃ hc
 | .undef,_,hc,_=>a₃ hc
theorem tG {M:FM}: ∀{v:List MV} {K:List MV×List (Nat×Nat)→Prop},qY v=true→K (v,[])→(fh M v).runP K
 | [],_,_,h=>h
 | m :: l,_,hc,h=>by
  unfold qY at hc
  cases hm:Fs m with
  | false=>rw [hm] at hc;exact a₃ hc
  | true=>
   rw [hm] at hc
   exact KH hm (tG hc h)
end
theorem Cd {T:bf} {M:FM} {ty:TypeId} {p:MV} {K K':MV×Dl→Prop} (hk: ∀x,K x→K' x) (h:(fS T M ty p).runP K):(fS T M ty p).runP K':=by
 unfold fS at h ⊢;split at h
 ·exact h
 ·split at h
  ·split at h
   ·rename_i b _;cases hb:a₆ b.es _ with
    | false=>rw [hb] at h;exact h
    | true=>
     rw [hb] at h;obtain⟨m,hm,r,hr,h⟩:=h;refine⟨m,hm,r,hr,?_⟩;dsimp only at h ⊢;generalize dX _ r=q at *;cases q
     ·exact h
     ·exact hk _ h
   ·exact h
  ·obtain⟨r,hr,h⟩:=h;refine⟨r,hr,?_⟩;dsimp only at h ⊢;generalize dX _ r=q at *;cases q
   ·exact h
   ·exact hk _ h
  ·exact h
theorem gD {T:bf} {M:VM} {E:VE}: ∀{rs:List ResultVar} {K K':List MV→Prop},(∀v,K v→K' v)→dK T M E rs K→dK T M E rs K'
 | [],_,_,hk,h=>hk _ h
 | .tmp t :: l,K,K',hk,h=>by
  unfold dK at h ⊢
  split at h
  ·exact gD (fun v hv=>hk _ hv) h
  ·exact h
 | .cell p ty :: l,K,K',hk,h=>by
  unfold dK at h ⊢
  split at h
  ·exact Cd (fun x hx=>gD (fun v hv=>hk _ hv) hx) h
  ·exact h
theorem wo {T:bf} {rs:List ResultVar} {res:MV} {M:VM} {E:VE} {n:Nat} (vs:List MV) (hR:kF vs=res) (hc:qY vs=true) (h1:dK T M E rs (fun v=>v=vs)):HC T rs (fun r=>r=res) .ret E M n:=
 gD (fun v hv=>by subst hv;exact tG hc hR) h1
end
end
section
def tab:bf:= [(1, .fn),(2, .int .i64),(3, .int .i64),(4, .bool),(5, .int .u8),(6, .int .u8),(7, .struct [(0,2),(1,3),(2,4),(3,6)] 4),(8, .struct [(0,2),(1,3),(2,4),(3,6)] 4),(9, .str),(10, .str),(11, .str),(12, .int .u64),(13, .struct [(0,9),(1,12)] 2),(14, .struct [(0,9),(1,12)] 2),(15, .ptr),(16, .ptr),(17, .ptr),(18, .struct [(0,17)] 1),(19, .struct [(0,17)] 1),(20, .iface),(21, .int .i32),(22, .int .u64),(23, .struct [(0,3),(1,3),(2,3),(3,3),(4,3),(5,3),(6,4),(7,3),(8,3),(9,22),(10,3),(11,3)] 12),(24, .struct [(0,3),(1,3),(2,3),(3,3),(4,3),(5,3),(6,4),(7,3),(8,3),(9,22),(10,3),(11,3)] 12),(25, .slice 87 3),(26, .slice 3 1),(27, .fn),(28, .fn),(29, .ptr),(30, .fn),(31, .fn),(32, .slice 24 12),(33, .fn),(34, .slice 25 1),(35, .struct [(0,25),(1,22)] 2),(36, .struct [(0,25),(1,22)] 2),(37, .struct [(0,36),(2,36),(4,36),(6,4),(7,22)] 8),(38, .struct [(0,36),(2,36),(4,36),(6,4),(7,22)] 8),(39, .slice 64 41),(40, .slice 55 32),(41, .struct [(0,24),(12,38),(20,3),(21,3),(22,3),(23,39),(24,40)] 25),(42, .struct [(0,24),(12,38),(20,3),(21,3),(22,3),(23,39),(24,40)] 25),(43, .int .i64),(45, .fn),(46, .fn),(47, .fn),(49, .fn),(50, .fn),(51, .slice 5 1),(52, .fn),(53, .slice 51 1),(54, .arr 32 5 1),(55, .arr 32 5 1),(56, .struct [(0,43),(1,55),(33,22),(34,40),(35,40),(36,40),(37,40),(38,40),(39,53),(40,3),(41,55)] 73),(57, .struct [(0,43),(1,55),(33,22),(34,40),(35,40),(36,40),(37,40),(38,40),(39,53),(40,3),(41,55)] 73),(59, .fn),(60, .fn),(61, .fn),(62, .fn),(63, .struct [(0,55),(32,51),(33,9),(34,22),(35,22),(36,22),(37,3),(38,3),(39,3),(40,26)] 41),(64, .struct [(0,55),(32,51),(33,9),(34,22),(35,22),(36,22),(37,3),(38,3),(39,3),(40,26)] 41),(65, .fn),(66, .fn),(67, .fn),(68, .fn),(69, .fn),(70, .fn),(71, .fn),(72, .fn),(73, .fn),(74, .struct [(0,26),(1,3)] 2),(75, .struct [(0,26),(1,3)] 2),(77, .fn),(78, .fn),(79, .fn),(80, .fn),(81, .fn),(82, .fn),(83, .fn),(84, .slice 26 1),(85, .fn),(86, .struct [(0,9),(1,22),(2,22)] 3),(87, .struct [(0,9),(1,22),(2,22)] 3),(88, .fn),(89, .slice 9 1),(90, .slice 22 1),(91, .fn),(93, .fn),(94, .fn),(95, .fn),(97, .fn),(98, .slice 129 2),(99, .struct [(0,9),(1,22),(2,22),(3,22),(4,9),(5,98)] 6),(100, .struct [(0,9),(1,22),(2,22),(3,22),(4,9),(5,98)] 6),(101, .fn),(102, .fn),(103, .fn),(104, .struct [(0,43),(1,9),(2,22),(3,22),(4,22)] 5),(105, .struct [(0,43),(1,9),(2,22),(3,22),(4,22)] 5),(106, .fn),(107, .fn),(108, .fn),(109, .fn),(110, .fn),(111, .fn),(112, .fn),(114, .fn),(115, .fn),(116, .fn),(117, .fn),(118, .int .u32),(119, .arr 8 118 1),(120, .fn),(121, .fn),(122, .fn),(123, .fn),(124, .fn),(125, .fn),(126, .fn),(127, .fn),(128, .struct [(0,9),(1,22)] 2),(129, .struct [(0,9),(1,22)] 2),(130, .struct [(0,22),(1,4)] 2),(131, .struct [(0,22),(1,4)] 2),(132, .struct [(0,9),(1,131),(3,131),(5,131)] 7),(133, .struct [(0,9),(1,131),(3,131),(5,131)] 7),(134, .arr 12 133 7),(135, .fn),(137, .fn),(138, .fn),(140, .fn),(141, .fn),(142, .fn),(143, .fn),(144, .fn),(145, .fn),(146, .fn),(147, .fn),(148, .fn),(149, .fn),(150, .fn),(151, .fn),(152, .fn),(153, .fn),(155, .fn),(156, .fn),(157, .fn),(158, .fn),(159, .arr 64 118 1),(160, .int .u64),(161, .fn),(162, .fn),(163, .fn),(164, .fn),(165, .ptr),(166, .arr 12 165 1),(167, .fn),(168, .ptr),(169, .fn),(170, .other),(171, .fn),(172, .struct [] 0),(175, .fn),(176, .fn),(177, .fn),(178, .fn),(179, .fn),(180, .fn),(181, .fn),(182, .fn),(183, .slice 188 4),(184, .fn),(185, .fn),(186, .fn),(187, .struct [(0,3),(1,3),(2,22),(3,51)] 4),(188, .struct [(0,3),(1,3),(2,22),(3,51)] 4),(189, .fn),(190, .ptr),(191, .fn),(192, .fn),(193, .fn),(194, .fn),(195, .fn),(196, .fn),(197, .fn),(198, .fn),(199, .fn),(201, .fn),(202, .fn),(203, .fn),(204, .fn),(205, .fn),(206, .fn),(207, .fn),(208, .fn),(209, .fn),(211, .fn),(212, .fn),(213, .fn),(214, .arr 8 118 1),(215, .fn),(216, .struct [(0,214),(8,51),(9,3)] 10),(217, .struct [(0,214),(8,51),(9,3)] 10),(218, .fn),(219, .fn),(220, .ptr),(221, .int .u64),(222, .struct [(0,17),(1,220),(2,221)] 3),(223, .struct [(0,17),(1,220),(2,221)] 3),(224, .fn),(225, .fn),(226, .fn),(227, .fn),(228, .struct [(0,197),(1,225)] 2),(229, .struct [(0,197),(1,225)] 2),(230, .fn),(232, .fn),(234, .fn),(236, .fn),(237, .fn),(238, .fn),(239, .fn),(240, .int .i64),(242, .fn),(243, .fn),(244, .fn),(245, .fn),(246, .fn),(247, .fn),(248, .fn),(249, .fn),(250, .ptr),(251, .fn),(252, .fn),(253, .fn),(254, .fn),(255, .fn),(256, .struct [(0,17)] 1),(257, .struct [(0,17)] 1),(258, .ptr),(259, .fn),(260, .fn),(262, .fn),(264, .fn),(265, .fn),(267, .fn),(268, .fn),(269, .fn),(270, .int .u64),(271, .fn),(272, .fn),(273, .fn),(274, .fn),(275, .fn),(276, .fn),(277, .struct [(0,51)] 1),(278, .struct [(0,51)] 1),(279, .fn),(280, .fn),(281, .fn),(282, .fn),(283, .fn),(285, .fn),(286, .ptr),(288, .fn),(289, .ptr),(293, .fn),(294, .iface),(295, .iface),(296, .fn),(297, .fn),(298, .arr 256 5 1),(299, .struct [(0,5),(1,5)] 2),(300, .struct [(0,5),(1,5)] 2),(301, .arr 16 300 2),(302, .ptr),(303, .fn),(304, .struct [(0,17),(1,17),(2,17),(3,9)] 4),(305, .struct [(0,17),(1,17),(2,17),(3,9)] 4),(309, .int .u8),(310, .int .u8),(311, .fn),(312, .ptr),(313, .int .i32),(314, .int .i32),(315, .struct [(0,12),(1,12),(2,118),(3,309),(4,5),(5,5),(6,310),(7,311),(8,312),(9,313),(10,314)] 11),(316, .struct [(0,12),(1,12),(2,118),(3,309),(4,5),(5,5),(6,310),(7,311),(8,312),(9,313),(10,314)] 11),(317, .struct [(0,9),(1,310)] 2),(318, .struct [(0,9),(1,310)] 2),(319, .struct [(0,9)] 1),(320, .struct [(0,9)] 1)]
def ents:List FuncId:= [2,3,4,5,6,7,8,9,10,11,12,13,14,15,16,17,18,19,20,21,22,23,24,25,26,27,28,29,30,31,32,33,34,35,36,37,38,39,40,41,42,43,44,45,46,47,48,49,50,51,52,53,54,55,56,57,58,59,60,61,62,63,64,65,66,67,68,69,70,71,72,73,74,75,76,77,78,79,80,81,82,83,84,85,86,87,88,89,90,91,92,93,94,95,96,97,98,99,100,101,102,103,104,105,106,107,108,109,110,111,112,113,114,115,116,117,118,119,120,121,122,123,124,125,126,127,128,129,130,131,132,133,134,135,136,137,138,139,140,141,142,143,144,145,146,147,148,149,150,151,152,153,154,155,156,157,158,159,160,161,162,163,164,165,166,169,171,172,173,174,175,176,177,178,179,180,181,182,183,184,185,186,187,188,189,190,191,192,193,194,195,196,197,198,199,200,201,202,203,204,205,215,216,217,218,219,220,221,223,224,225,226,227,228,229,230,231,232,233,234,235,236,237,238,239,240,242,243,244,245,246,247,248,249,250,251,252,253,254,255,256,282]
def MH (P:Program) (f:FuncId):Bool:=match P.funcs[f]? with | some fn=>fn.body.isSome && !(fn.name == "runtime.NumGoroutine") | none=>false
theorem tH {P:Program} {f:FuncId} (h:MH P f=true) (args:Array Value) (w:World):(callFunc f args).run P w= .ok (.enter f args) w:=by
 unfold MH at h;split at h
 ·rename_i fn hf;simp only [a₀,b₁] at h;obtain⟨h1,h2⟩:=h;obtain⟨c,hc⟩:=Option.isSome_iff_exists.1 h1;exact enters_of hf h2 hc args w
 ·cases h
theorem seat:Seat Tryz.prog tab ents:=⟨⟨by kernel_rfl⟩,fun f hf=>tH (a₇.1 (show ents.all (MH Tryz.prog)=true by kernel_rfl) f hf),by kernel_rfl⟩
end
section
theorem sv {α:Type} {a b:α} (h:a=b):some a=some b:=congrArg some h
theorem iu.of {n0:Nat} {E':VE} {M':VM} {n':Nat} {E:VE} {M:VM} (σ bs:List (Nat×Nat)) (h1:mE (bZ n0 σ) (kz M bs) E' E) (h2:mM (bZ n0 σ) (kz M bs) M' (VM.bump M bs)) (h3:rE n0 n' σ=true) (h4:Dq M bs) (h5:M'.all (fun x=>a₄ x.1 n')=true):iu n0 E' M' n' E M:=⟨σ,bs,h3,h4,h5,h1,h2⟩
theorem KI (x n:Int) (hn:0 < n):(if x.tmod n < 0 then x.tmod n + n else x.tmod n)=x % n:=by
 rw [Int.tmod_eq_emod];have h1:=Int.emod_nonneg x (show n≠0 by omega);have h2:=Int.emod_lt_of_pos x hn;have e:(n.natAbs:Int)=n:=om;split <;> split at * <;> omega
theorem eh {l:List MV} {n k:Nat} {x:MV} (hk:k < n) (hx:l[k]? =some x):cS l n (k:Int)=some x:=by
 unfold cS;rw [if_pos om];simpa using hx
theorem ca {n k:Nat} (hk:k < n):Dg n (k:Int)=some k:=by
 unfold Dg;rw [if_pos om];simp
theorem bT {α:Type} (f:α→MV) (l:List α):cutL (l.map f) 0 (0 + l.length)=l.map f:=by simp [cutL,List.take_of_length_le]
theorem aE {n m k:Nat} (hb:c₈ k 4096=true) (h:n + m≤2000000000):(n + m) * k≤140737488355328∧n + m≤maxLen:=by
 have hb:=d₁ hb;have:=Nat.mul_le_mul h hb;have e:maxLen=9223372036854775807:=rfl;omega
theorem oX {m k:Nat} (hb:c₈ k 4096=true) (h:m≤2000000000):m * k≤140737488355328∧m≤maxLen:=by
 have:=aE (n:=0) (m:=m) hb om;rw [Nat.zero_add] at this;exact this
def bM (l:List Int):MV:= .sl l.length (l.map (.int .i64))
theorem jR {l:List Int} {k:Nat} (hk:k < l.length):cS (l.map (MV.int .i64)) l.length (k:Int)=some (.int .i64 l[k]):=eh hk (by simp [hk])
end
section
variable {R:MV×Dl→Prop}
theorem Oa {x:Int} (h:R (.bool true, .none)):R (.bool (x == x), .none):=by rw [beq_self_eq_true];exact h
theorem Ob {x:Int} (h:R (.bool false, .none)):R (.bool (x !=x), .none):=by rw [bne_self_eq_false];exact h
theorem Oc {x:List UInt8} (h:R (.bool true, .none)):R (.bool (x == x), .none):=by rw [beq_self_eq_true];exact h
theorem Od {x:List UInt8} (h:R (.bool false, .none)):R (.bool (!(x == x)), .none):=by rw [beq_self_eq_true];exact h
theorem er: ∀l:List UInt8,kn (u8s l)=some l
 | [] =>rfl
 | a :: l=>by
  show(if 0≤(a.toNat:Int)∧(a.toNat:Int) < 256 then(match kn (u8s l) with | some r=>some (UInt8.ofNat (Int.toNat (a.toNat:Int)) :: r) | none=>none) else none)=_
  have:=a.toNat_lt
  rw [if_pos om,er l]
  simp
end
section
theorem w32 (n:Int):IntKind.u32.wrap n=n % 4294967296:=by
 simp only [IntKind.wrap,IntKind.bits,IntKind.signed];simp
theorem w8 (n:Int):IntKind.u8.wrap n=n % 256:=by
 simp only [IntKind.wrap,IntKind.bits,IntKind.signed];simp
theorem wu64 (n:Int):IntKind.u64.wrap n=n % 18446744073709551616:=by
 simp only [IntKind.wrap,IntKind.bits,IntKind.signed];simp
abbrev du (x:UInt32):MV:= .int .u32 x.toNat
abbrev KJ (x:UInt8):MV:= .int .u8 x.toNat
theorem ei (n m:Nat) (h:m < 2 ^ n):(BitVec.ofInt n (m:Int)).toNat=m:=by
 rw [BitVec.toNat_ofInt];have e:((2 ^ n:Nat):Int)=(2:Int) ^ n:=sm;have:((m:Int) % ((2 ^ n:Nat):Int)).toNat=m:=by
  rw [← d₉,Int.toNat_natCast,b₉ h]
 exact this
theorem KK (x:UInt32):x.toNat < 4294967296:=x.toNat_lt
theorem t8 (x:UInt8):x.toNat < 256:=x.toNat_lt
theorem zZ (x y:UInt32):IntKind.u32.wrap ((x.toNat:Int) + (y.toNat:Int))=((x + y).toNat:Int):=by
 rw [w32,UInt32.toNat_add];omega
theorem z1 (x y:UInt32):IntKind.u32.wrap ((BitVec.ofInt IntKind.u32.bits (x.toNat:Int) &&& BitVec.ofInt IntKind.u32.bits (y.toNat:Int)).toNat:Int)=((x &&& y).toNat:Int):=by
 have h:=KK (x &&& y);rw [BitVec.toNat_and,ei _ _ (KK x),ei _ _ (KK y),← UInt32.toNat_and,w32];omega
theorem HK (x y:UInt32):IntKind.u32.wrap ((BitVec.ofInt IntKind.u32.bits (x.toNat:Int) ||| BitVec.ofInt IntKind.u32.bits (y.toNat:Int)).toNat:Int)=((x ||| y).toNat:Int):=by
 have h:=KK (x ||| y);rw [BitVec.toNat_or,ei _ _ (KK x),ei _ _ (KK y),← UInt32.toNat_or,w32];omega
theorem wq (x y:UInt32):IntKind.u32.wrap ((BitVec.ofInt IntKind.u32.bits (x.toNat:Int) ^^^ BitVec.ofInt IntKind.u32.bits (y.toNat:Int)).toNat:Int)=((x ^^^ y).toNat:Int):=by
 have h:=KK (x ^^^ y);rw [BitVec.toNat_xor,ei _ _ (KK x),ei _ _ (KK y),← UInt32.toNat_xor,w32];omega
theorem z6 (y:UInt32):IntKind.u32.wrap ((BitVec.ofInt IntKind.u32.bits (if IntKind.u32.signed then -1 else IntKind.u32.max) ^^^ BitVec.ofInt IntKind.u32.bits (y.toNat:Int)).toNat:Int)=((~~~y).toNat:Int):=by
 have e:(if IntKind.u32.signed then(-1:Int) else IntKind.u32.max)=(((-1:UInt32)).toNat:Int):=by rfl
 rw [e,wq];have h:(-1:UInt32) ^^^ y= ~~~y:=by
  apply UInt32.toBitVec_inj.1;rw [UInt32.toBitVec_xor,UInt32.toBitVec_not];exact BitVec.allOnes_xor
 rw [h]
theorem HL (x:UInt32) (k:Nat) (hk:k < 32):IntKind.u32.wrap ((x.toNat:Int) * 2 ^ (min (k:Int).toNat IntKind.u32.bits))=((x <<< UInt32.ofNat k).toNat:Int):=by
 have e:min (k:Int).toNat IntKind.u32.bits=k:=by simp [IntKind.bits];omega
 rw [e,w32,UInt32.toNat_shiftLeft,UInt32.toNat_ofNat',b₉ (show k < 2 ^ 32 by omega),b₉ hk,Nat.shiftLeft_eq];rw [show (x.toNat:Int) * 2 ^ k=((x.toNat * 2 ^ k:Nat):Int) by rw [Int.natCast_mul,e₄];rfl];exact(d₉ (x.toNat * 2 ^ k) 4294967296).symm
theorem tI (x:UInt32) (k:Nat) (hk:k < 32):((x.toNat:Int).fdiv (2 ^ (min (k:Int).toNat IntKind.u32.bits)))=((x >>> UInt32.ofNat k).toNat:Int):=by
 have e:min (k:Int).toNat IntKind.u32.bits=k:=by simp [IntKind.bits];omega
 rw [e,UInt32.toNat_shiftRight,UInt32.toNat_ofNat',b₉ (show k < 2 ^ 32 by omega),b₉ hk,Nat.shiftRight_eq_div_pow,Int.fdiv_eq_ediv_of_nonneg _ (Int.le_of_lt (Int.pow_pos om))];rw [Int.natCast_ediv,e₄];rfl
theorem HM (x:UInt32) (j:Int) (h0:0≤j) (h1:j < 32):IntKind.u32.wrap ((x.toNat:Int) * 2 ^ (min j.toNat IntKind.u32.bits))=((x <<< UInt32.ofNat j.toNat).toNat:Int):=by
 have:=HL x j.toNat om
 rwa [d₄ h0] at this
theorem HN (x:UInt32) (j:Int) (h0:0≤j) (h1:j < 32):((x.toNat:Int).fdiv (2 ^ (min j.toNat IntKind.u32.bits)))=((x >>> UInt32.ofNat j.toNat).toNat:Int):=by
 have:=tI x j.toNat om
 rwa [d₄ h0] at this
theorem oY (x:UInt8):IntKind.u32.wrap (x.toNat:Int)=((x.toUInt32).toNat:Int):=by
 have:=t8 x;rw [w32,UInt8.toNat_toUInt32];omega
theorem iI (x:UInt32):IntKind.u8.wrap (x.toNat:Int)=((x.toUInt8).toNat:Int):=by
 rw [w8,UInt32.toNat_toUInt8];omega
end
section
structure GP (q:Prop):Prop where
 out:q
structure aT {α:Type} (a b:α):Prop where
 out:a=b
structure al {α:Type} (a:Option α) (b:α):Prop where
 out':a=some b
theorem al.out {α:Type} {a:Option α} {b:α} (h:al a b):a=some b:=h.out'
structure bN (p:Prop):Prop where
 out:p
theorem pf {p:Prop} (h:p:=by first | rfl | omega | (simp [u8s,cutL,setL,repM,List.replicate_succ',List.range_succ];done) | (simp [u8s,cutL,setL,repM];omega)):p:=h
theorem rv0 {p:Prop} (h:p:=by (first | exact⟨rfl,rfl⟩ | exact .inr ⟨rfl,rfl⟩ | exact .inr ⟨rfl,rfl,rfl,Nat.le_refl _,rfl⟩ | exact .inl rfl | exact .inl ⟨rfl,rfl⟩ | exact⟨_,rfl,rfl⟩ | exact .inr ⟨_,rfl,rfl⟩ | exact .inl ⟨rfl,rfl,rfl⟩ | exact⟨congrArg (MV.int _) (by omega),rfl⟩ | exact .inr ⟨rfl,rfl,rfl,Nat.le_of_eq (Nat.zero_add _),bT _ _⟩ | fail)):p:=h
theorem PT {p:Prop} (h:p:=by (repeat(first | exact trivial | refine And.intro rv0 ?_));first | done | fail):p:=h
theorem rv1 {p:Prop} (h:p:=by (first | exact rv0 | (refine .inr ⟨_,rfl,?_⟩;exact rv0) | (refine .inr ⟨_,rfl,?_⟩;exact PT) | fail)):p:=h
theorem PU {p:Prop} (h:p:=by (repeat(first | exact trivial | refine And.intro rv1 ?_));first | done | fail):p:=h
theorem rv2 {p:Prop} (h:p:=by (first | exact rv1 | (refine .inr ⟨_,rfl,?_⟩;exact rv1) | (refine .inr ⟨_,rfl,?_⟩;exact PU) | fail)):p:=h
theorem PV {p:Prop} (h:p:=by (repeat(first | exact trivial | refine And.intro rv2 ?_));first | done | fail):p:=h
theorem rv {p:Prop} (h:p:=by (first | exact rv2 | (refine .inr ⟨_,rfl,?_⟩;exact rv2) | (refine .inr ⟨_,rfl,?_⟩;exact PV) | fail)):p:=h
theorem lm {p:Prop} (h:p:=by (repeat(first | exact trivial | refine And.intro rv ?_))):p:=h
theorem mm {p:Prop} (h:p:=by (repeat(first | exact trivial | refine⟨Nat.le_refl _,?_⟩ | refine⟨⟨_,rfl,rv⟩,?_⟩ | refine⟨.inl ⟨rfl,rfl,rfl,rfl⟩,?_⟩ | refine⟨.inr ⟨_,_,rfl,rfl,rfl,rfl, .inl rfl, .inl rfl, .inl ⟨rfl,rfl⟩⟩,?_⟩ | refine⟨.inr ⟨_,_,rfl,rfl,rfl,rfl, .inl rfl, .inl rfl, .inl ⟨(by simp [u8s]),rfl⟩⟩,?_⟩ | refine⟨.inr ⟨_,_,rfl,rfl,rfl,rfl, .inl rfl, .inr ⟨(by first | exact Nat.max_le.2 ⟨Nat.zero_le _,Nat.le_refl _⟩ | exact Nat.max_le.2 ⟨Nat.le_refl _,Nat.le_refl _⟩),(by simp [u8s])⟩, .inl ⟨rfl,rfl⟩⟩,?_⟩ | refine⟨.inr ⟨_,_,rfl,rfl,rfl,rfl, .inl rfl, .inl rfl, .inr ⟨rv,trivial⟩⟩,?_⟩ | refine⟨(show _≤_ by simp [u8s]),?_⟩ | refine⟨.inr ⟨_,_,rfl,rfl,rfl,rfl, .inr (.inl ⟨rfl,rfl,rfl,bN.out (by assumption)⟩), .inl rfl, .inl ⟨rfl,rfl⟩⟩,?_⟩))):p:=h
theorem jA {p:Prop} (h:p:=by intro R hR;first | ((with_reducible apply lU);exact rfl;exact rfl;exact rfl;exact rfl;kernel_rfl;exact hR) | ((with_reducible apply mP);exact rfl;exact rfl;exact rfl;exact Nat.zero_le _;exact rfl;exact rfl;kernel_rfl;exact hR) | ((with_reducible apply tD);exact rfl;exact rfl;kernel_rfl;exact hR) | ((with_reducible apply lT);exact rfl;exact rfl;kernel_rfl;exact hR) | (repeat(first | exact hR | ((try conv=>whnf);first | exact hR | (with_reducible refine⟨_,sv (aT.out (by assumption)),?_⟩) | (with_reducible refine And.intro (bN.out (by assumption)) ?_) | (with_reducible refine And.intro (Nat.zero_le _) ?_) | (with_reducible refine And.intro rfl ?_) | (with_reducible refine⟨_,ca (by omega),?_⟩) | (with_reducible refine⟨fun _=>?_,fun h=>Bool.noConfusion h⟩) | (with_reducible refine⟨fun h=>Bool.noConfusion h,fun _=>?_⟩) | (with_reducible refine⟨_,sv (dW _ (by omega) (by omega)),?_⟩) | (with_reducible refine⟨_,sv (bt _ (by omega) (by omega)),?_⟩) | (with_reducible refine⟨_,sv (fR _ (by omega) (by omega)),?_⟩) | (refine⟨_,rfl,?_⟩) | (refine⟨_,al.out (by assumption),?_⟩) | (refine And.intro (by omega) ?_))));first | done | fail):p:=h
theorem DD {p:Prop} (h:p:=by intro R hR;first | ((with_reducible apply lU);exact rfl;exact rfl;exact rfl;exact rfl;kernel_rfl;exact hR) | ((with_reducible apply mP);exact rfl;exact rfl;exact rfl;exact Nat.zero_le _;exact rfl;exact rfl;kernel_rfl;exact hR) | ((with_reducible apply tD);exact rfl;exact rfl;kernel_rfl;exact hR) | ((with_reducible apply lT);exact rfl;exact rfl;kernel_rfl;exact hR) | (repeat(first | exact hR | ((try conv=>whnf);first | exact hR | (with_reducible refine⟨_,sv (aT.out (by assumption)),?_⟩) | (with_reducible refine And.intro (bN.out (by assumption)) ?_) | (with_reducible refine And.intro (Nat.zero_le _) ?_) | (with_reducible refine And.intro rfl ?_) | (with_reducible refine⟨_,sv (zZ _ _),?_⟩) | (with_reducible refine⟨_,sv (wq _ _),?_⟩) | (with_reducible refine⟨_,sv (z1 _ _),?_⟩) | (with_reducible refine⟨_,sv (HK _ _),?_⟩) | (with_reducible refine⟨_,sv (z6 _),?_⟩) | (with_reducible refine⟨_,sv (HM _ _ (by omega) (by omega)),?_⟩) | (with_reducible refine⟨_,sv (HN _ _ (by omega) (by omega)),?_⟩) | (with_reducible refine⟨_,sv (oY _),?_⟩) | (with_reducible refine⟨_,sv (iI _),?_⟩) | (with_reducible refine⟨fun _=>?_,fun h=>Bool.noConfusion h⟩) | (with_reducible refine⟨fun h=>Bool.noConfusion h,fun _=>?_⟩) | (with_reducible refine⟨_,sv (dW _ (by omega) (by omega)),?_⟩) | (with_reducible refine⟨_,sv (bt _ (by omega) (by omega)),?_⟩) | (with_reducible refine⟨_,sv (fR _ (by omega) (by omega)),?_⟩) | (refine⟨_,rfl,?_⟩) | (refine⟨_,al.out (by assumption),?_⟩) | (refine And.intro (by omega) ?_))));first | done | fail):p:=h
theorem DE {p:Prop} (h:p:=by intro R hR;first | ((with_reducible apply lU);exact rfl;exact rfl;exact rfl;exact rfl;kernel_rfl;exact hR) | ((with_reducible apply mP);exact rfl;exact rfl;exact rfl;exact Nat.zero_le _;exact rfl;exact rfl;kernel_rfl;exact hR) | ((with_reducible apply tD);exact rfl;exact rfl;kernel_rfl;exact hR) | ((with_reducible apply lT);exact rfl;exact rfl;kernel_rfl;exact hR) | (repeat((try conv=>whnf);first | (with_reducible exact Oa hR) | (with_reducible exact Ob hR) | (with_reducible exact Oc hR) | (with_reducible exact Od hR) | exact hR | (with_reducible refine⟨_,sv (aT.out (by assumption)),?_⟩) | (with_reducible refine And.intro (bN.out (by assumption)) ?_) | (with_reducible refine And.intro (Nat.zero_le _) ?_) | (with_reducible refine And.intro rfl ?_) | (with_reducible refine⟨_,ca (by omega),?_⟩) | (with_reducible refine⟨fun _=>?_,fun h=>Bool.noConfusion h⟩) | (with_reducible refine⟨fun h=>Bool.noConfusion h,fun _=>?_⟩) | (with_reducible refine⟨_,sv (dW _ (by omega) (by omega)),?_⟩) | (with_reducible refine⟨_,sv (bt _ (by omega) (by omega)),?_⟩) | (with_reducible refine⟨_,sv (fR _ (by omega) (by omega)),?_⟩) | (refine⟨_,rfl,?_⟩) | (refine⟨_,al.out (by assumption),?_⟩) | (refine And.intro (by omega) ?_)));first | done | fail):p:=h
theorem av {p q:Prop} (h:q) (s:GP q→p:=by intro hq;(repeat((try conv=>whnf);first | (with_reducible refine Rt.go ?_) | (with_reducible refine Rs.go ?_) | (with_reducible refine tp ?_) | (with_reducible refine And.intro (Nat.zero_le _) ?_) | (with_reducible refine And.intro rfl ?_) | (with_reducible refine⟨_,ca (by omega),?_⟩) | (with_reducible refine⟨fun _=>?_,fun h=>Bool.noConfusion h⟩) | (with_reducible refine⟨fun h=>Bool.noConfusion h,fun _=>?_⟩) | (with_reducible refine⟨_,sv (dW _ (by omega) (by omega)),?_⟩) | (with_reducible refine⟨_,sv (bt _ (by omega) (by omega)),?_⟩) | (with_reducible refine⟨_,sv (fR _ (by omega) (by omega)),?_⟩) | refine⟨_,rfl,?_⟩ | refine And.intro (show fV _ _ _=true by kernel_rfl) ?_ | refine And.intro (by omega) ?_));exact hq.out):p:=s ⟨h⟩
theorem aP {p q:Prop} (h:q) (s:GP q→p:=by intro hq;(repeat((try conv=>whnf);first | (with_reducible refine Rt.go ?_) | (with_reducible refine Rs.go ?_) | (with_reducible refine tp ?_) | (with_reducible refine And.intro (Nat.zero_le _) ?_) | (with_reducible refine And.intro rfl ?_) | (with_reducible refine⟨fun _=>?_,fun h=>Bool.noConfusion h⟩) | (with_reducible refine⟨fun h=>Bool.noConfusion h,fun _=>?_⟩) | (with_reducible refine⟨_,sv (zZ _ _),?_⟩) | (with_reducible refine⟨_,sv (wq _ _),?_⟩) | (with_reducible refine⟨_,sv (z1 _ _),?_⟩) | (with_reducible refine⟨_,sv (HK _ _),?_⟩) | (with_reducible refine⟨_,sv (z6 _),?_⟩) | (with_reducible refine⟨_,sv (HM _ _ (by omega) (by omega)),?_⟩) | (with_reducible refine⟨_,sv (HN _ _ (by omega) (by omega)),?_⟩) | (with_reducible refine⟨_,sv (oY _),?_⟩) | (with_reducible refine⟨_,sv (iI _),?_⟩) | (with_reducible refine⟨_,sv (dW _ (by omega) (by omega)),?_⟩) | (with_reducible refine⟨_,sv (bt _ (by omega) (by omega)),?_⟩) | (with_reducible refine⟨_,sv (fR _ (by omega) (by omega)),?_⟩) | refine⟨_,rfl,?_⟩ | refine And.intro (show fV _ _ _=true by kernel_rfl) ?_ | refine And.intro (by omega) ?_));exact hq.out):p:=s ⟨h⟩
theorem ae {p q:Prop} (h:q) (s:GP q→p:=by intro hq;(repeat(first | ((with_reducible apply tE);exact rfl;exact rfl;exact rfl;exact rfl;kernel_rfl) | ((with_reducible apply oU);exact rfl;exact rfl;exact rfl;exact Nat.zero_le _;exact rfl;exact rfl;kernel_rfl) | ((with_reducible apply zY);exact rfl;exact rfl;kernel_rfl) | ((with_reducible apply oW);exact rfl;exact rfl;kernel_rfl) | ((with_reducible apply wk);exact rfl;exact jA) | ((with_reducible apply xK)) | ((with_reducible apply tt)) | ((with_reducible apply zT)) | ((with_reducible apply tn)) | ((with_reducible apply tF);exact rfl;exact rfl;exact rfl;exact rfl;exact rfl;kernel_rfl) | ((with_reducible apply oV);exact rfl;exact rfl;exact rfl;exact rfl;exact Nat.zero_le _;exact rfl;exact rfl;kernel_rfl) | ((with_reducible apply wm);exact rfl;exact rfl;exact jA) | ((with_reducible apply zU);(exact(show fV _ _ _=true by kernel_rfl))) | ((with_reducible apply qb);exact rfl;exact jA) | ((with_reducible apply tr);exact rfl;exact jA) | ((with_reducible apply ts);exact rfl;exact rfl;exact rfl;exact jA) | ((with_reducible apply lM);exact rfl;exact rfl;exact rfl) | ((with_reducible apply lN);exact rfl;exact rfl;exact rfl) | ((with_reducible apply tq);exact rfl;exact rfl;exact jA;exact rfl) | ((with_reducible apply qa);exact rfl;exact rfl;exact jA) | ((with_reducible apply aY);exact rfl;exact rfl;exact jA;exact rfl) | ((with_reducible apply DC)) | ((with_reducible apply zP)) | ((with_reducible apply th)) | ((with_reducible apply lH)) | ((with_reducible apply oO);exact rfl) | ((with_reducible apply oP);exact rfl) | ((with_reducible apply oN)) | ((with_reducible apply tf)) | ((with_reducible apply tg)) | ((with_reducible apply zQ)) | ((with_reducible apply tj)) | ((with_reducible apply tm)) | ((with_reducible apply lI)) | ((with_reducible apply lJ)) | ((with_reducible apply lK);exact rfl) | ((with_reducible apply lL);exact rfl) | ((with_reducible apply oS)) | ((with_reducible apply oT)) | ((with_reducible apply oM)) | (with_reducible refine oQ (by assumption) ?_) | (with_reducible refine oR (by assumption) ?_) | ((with_reducible apply qd);exact rfl;exact rfl;exact jA) | ((with_reducible apply tz);exact rfl;exact rfl;exact rfl;exact rfl;exact jA) | ((with_reducible apply zW);exact rfl;exact rfl;exact jA) | ((with_reducible apply tw)) | ((with_reducible apply kG);exact rfl) | ((with_reducible apply tu);exact rfl) | ((with_reducible apply lP);exact rfl;exact rfl;exact rfl) | ((with_reducible apply lQ);exact rfl;exact rfl;exact rfl) | ((with_reducible apply jP);exact rfl;exact rfl) | ((with_reducible apply zV)) | ((with_reducible apply nN);exact rfl;exact jA;exact rfl) | ((with_reducible apply mO);exact rfl;exact jA) | ((with_reducible apply bO);exact rfl;exact jA;exact rfl) | ((with_reducible apply jO);exact rfl;exact rfl) | ((with_reducible apply zS))));exact hq.out):p:=s ⟨h⟩
theorem PO {p q:Prop} (h:q) (s:GP q→p:=by intro hq;((first | ((with_reducible apply tE);exact rfl;exact rfl;exact rfl;exact rfl;kernel_rfl) | ((with_reducible apply oU);exact rfl;exact rfl;exact rfl;exact Nat.zero_le _;exact rfl;exact rfl;kernel_rfl) | ((with_reducible apply zY);exact rfl;exact rfl;kernel_rfl) | ((with_reducible apply oW);exact rfl;exact rfl;kernel_rfl) | ((with_reducible apply wk);exact rfl;exact jA) | ((with_reducible apply xK)) | ((with_reducible apply tt)) | ((with_reducible apply zT)) | ((with_reducible apply tn)) | ((with_reducible apply tF);exact rfl;exact rfl;exact rfl;exact rfl;exact rfl;kernel_rfl) | ((with_reducible apply oV);exact rfl;exact rfl;exact rfl;exact rfl;exact Nat.zero_le _;exact rfl;exact rfl;kernel_rfl) | ((with_reducible apply wm);exact rfl;exact rfl;exact jA) | ((with_reducible apply zU);(exact(show fV _ _ _=true by kernel_rfl))) | ((with_reducible apply qb);exact rfl;exact jA) | ((with_reducible apply tr);exact rfl;exact jA) | ((with_reducible apply ts);exact rfl;exact rfl;exact rfl;exact jA) | ((with_reducible apply lM);exact rfl;exact rfl;exact rfl) | ((with_reducible apply lN);exact rfl;exact rfl;exact rfl) | ((with_reducible apply tq);exact rfl;exact rfl;exact jA;exact rfl) | ((with_reducible apply qa);exact rfl;exact rfl;exact jA) | ((with_reducible apply aY);exact rfl;exact rfl;exact jA;exact rfl) | ((with_reducible apply DC)) | ((with_reducible apply zP)) | ((with_reducible apply th)) | ((with_reducible apply lH)) | ((with_reducible apply oO);exact rfl) | ((with_reducible apply oP);exact rfl) | ((with_reducible apply oN)) | ((with_reducible apply tf)) | ((with_reducible apply tg)) | ((with_reducible apply zQ)) | ((with_reducible apply tj)) | ((with_reducible apply tm)) | ((with_reducible apply lI)) | ((with_reducible apply lJ)) | ((with_reducible apply lK);exact rfl) | ((with_reducible apply lL);exact rfl) | ((with_reducible apply oS)) | ((with_reducible apply oT)) | ((with_reducible apply oM)) | (with_reducible refine oQ (by assumption) ?_) | (with_reducible refine oR (by assumption) ?_) | ((with_reducible apply qd);exact rfl;exact rfl;exact jA) | ((with_reducible apply tz);exact rfl;exact rfl;exact rfl;exact rfl;exact jA) | ((with_reducible apply zW);exact rfl;exact rfl;exact jA) | ((with_reducible apply tw)) | ((with_reducible apply kG);exact rfl) | ((with_reducible apply tu);exact rfl) | ((with_reducible apply lP);exact rfl;exact rfl;exact rfl) | ((with_reducible apply lQ);exact rfl;exact rfl;exact rfl) | ((with_reducible apply jP);exact rfl;exact rfl) | ((with_reducible apply zV)) | ((with_reducible apply nN);exact rfl;exact jA;exact rfl) | ((with_reducible apply mO);exact rfl;exact jA) | ((with_reducible apply bO);exact rfl;exact jA;exact rfl) | ((with_reducible apply jO);exact rfl;exact rfl) | ((with_reducible apply zS))));exact hq.out):p:=s ⟨h⟩
theorem KN {p q:Prop} (h:q) (s:GP q→p:=by intro hq;(repeat(first | ((with_reducible apply tE);exact rfl;exact rfl;exact rfl;exact rfl;kernel_rfl) | ((with_reducible apply oU);exact rfl;exact rfl;exact rfl;exact Nat.zero_le _;exact rfl;exact rfl;kernel_rfl) | ((with_reducible apply zY);exact rfl;exact rfl;kernel_rfl) | ((with_reducible apply oW);exact rfl;exact rfl;kernel_rfl) | ((with_reducible apply wk);exact rfl;exact DD) | ((with_reducible apply xK)) | ((with_reducible apply tt)) | ((with_reducible apply zT)) | ((with_reducible apply tn)) | ((with_reducible apply tF);exact rfl;exact rfl;exact rfl;exact rfl;exact rfl;kernel_rfl) | ((with_reducible apply oV);exact rfl;exact rfl;exact rfl;exact rfl;exact Nat.zero_le _;exact rfl;exact rfl;kernel_rfl) | ((with_reducible apply wm);exact rfl;exact rfl;exact DD) | ((with_reducible apply zU);(exact(show fV _ _ _=true by kernel_rfl))) | ((with_reducible apply qb);exact rfl;exact DD) | ((with_reducible apply tr);exact rfl;exact DD) | ((with_reducible apply ts);exact rfl;exact rfl;exact rfl;exact DD) | ((with_reducible apply lM);exact rfl;exact rfl;exact rfl) | ((with_reducible apply lN);exact rfl;exact rfl;exact rfl) | ((with_reducible apply tq);exact rfl;exact rfl;exact DD;exact rfl) | ((with_reducible apply qa);exact rfl;exact rfl;exact DD) | ((with_reducible apply aY);exact rfl;exact rfl;exact DD;exact rfl) | ((with_reducible apply DC)) | ((with_reducible apply zP)) | ((with_reducible apply th)) | ((with_reducible apply lH)) | ((with_reducible apply oO);exact rfl) | ((with_reducible apply oP);exact rfl) | ((with_reducible apply oN)) | ((with_reducible apply tf)) | ((with_reducible apply tg)) | ((with_reducible apply zQ)) | ((with_reducible apply tj)) | ((with_reducible apply tm)) | ((with_reducible apply lI)) | ((with_reducible apply lJ)) | ((with_reducible apply lK);exact rfl) | ((with_reducible apply lL);exact rfl) | ((with_reducible apply oS)) | ((with_reducible apply oT)) | ((with_reducible apply oM)) | (with_reducible refine oQ (by assumption) ?_) | (with_reducible refine oR (by assumption) ?_) | ((with_reducible apply qd);exact rfl;exact rfl;exact DD) | ((with_reducible apply tz);exact rfl;exact rfl;exact rfl;exact rfl;exact DD) | ((with_reducible apply zW);exact rfl;exact rfl;exact DD) | ((with_reducible apply tw)) | ((with_reducible apply kG);exact rfl) | ((with_reducible apply tu);exact rfl) | ((with_reducible apply lP);exact rfl;exact rfl;exact rfl) | ((with_reducible apply lQ);exact rfl;exact rfl;exact rfl) | ((with_reducible apply jP);exact rfl;exact rfl) | ((with_reducible apply zV)) | ((with_reducible apply nN);exact rfl;exact DD;exact rfl) | ((with_reducible apply mO);exact rfl;exact DD) | ((with_reducible apply bO);exact rfl;exact DD;exact rfl) | ((with_reducible apply jO);exact rfl;exact rfl) | ((with_reducible apply zS))));exact hq.out):p:=s ⟨h⟩
theorem fP {p q:Prop} (h:q) (s:GP q→p:=by intro hq;(repeat(first | ((with_reducible apply tE);exact rfl;exact rfl;exact rfl;exact rfl;kernel_rfl) | ((with_reducible apply oU);exact rfl;exact rfl;exact rfl;exact Nat.zero_le _;exact rfl;exact rfl;kernel_rfl) | ((with_reducible apply zY);exact rfl;exact rfl;kernel_rfl) | ((with_reducible apply oW);exact rfl;exact rfl;kernel_rfl) | ((with_reducible apply wk);exact rfl;exact DE) | ((with_reducible apply xK)) | ((with_reducible apply tt)) | ((with_reducible apply zT)) | ((with_reducible apply tn)) | ((with_reducible apply tF);exact rfl;exact rfl;exact rfl;exact rfl;exact rfl;kernel_rfl) | ((with_reducible apply oV);exact rfl;exact rfl;exact rfl;exact rfl;exact Nat.zero_le _;exact rfl;exact rfl;kernel_rfl) | ((with_reducible apply wm);exact rfl;exact rfl;exact DE) | ((with_reducible apply zU);(exact(show fV _ _ _=true by kernel_rfl))) | ((with_reducible apply qb);exact rfl;exact DE) | ((with_reducible apply tr);exact rfl;exact DE) | ((with_reducible apply ts);exact rfl;exact rfl;exact rfl;exact DE) | ((with_reducible apply lM);exact rfl;exact rfl;exact rfl) | ((with_reducible apply lN);exact rfl;exact rfl;exact rfl) | ((with_reducible apply tq);exact rfl;exact rfl;exact DE;exact rfl) | ((with_reducible apply qa);exact rfl;exact rfl;exact DE) | ((with_reducible apply aY);exact rfl;exact rfl;exact DE;exact rfl) | ((with_reducible apply DC)) | ((with_reducible apply zP)) | ((with_reducible apply th)) | ((with_reducible apply lH)) | ((with_reducible apply oO);exact rfl) | ((with_reducible apply oP);exact rfl) | ((with_reducible apply oN)) | ((with_reducible apply tf)) | ((with_reducible apply tg)) | ((with_reducible apply zQ)) | ((with_reducible apply tj)) | ((with_reducible apply tm)) | ((with_reducible apply lI)) | ((with_reducible apply lJ)) | ((with_reducible apply lK);exact rfl) | ((with_reducible apply lL);exact rfl) | ((with_reducible apply oS)) | ((with_reducible apply oT)) | ((with_reducible apply oM)) | (with_reducible refine oQ (by assumption) ?_) | (with_reducible refine oR (by assumption) ?_) | ((with_reducible apply qd);exact rfl;exact rfl;exact DE) | ((with_reducible apply tz);exact rfl;exact rfl;exact rfl;exact rfl;exact DE) | ((with_reducible apply zW);exact rfl;exact rfl;exact DE) | ((with_reducible apply tw)) | ((with_reducible apply kG);exact rfl) | ((with_reducible apply tu);exact rfl) | ((with_reducible apply lP);exact rfl;exact rfl;exact rfl) | ((with_reducible apply lQ);exact rfl;exact rfl;exact rfl) | ((with_reducible apply jP);exact rfl;exact rfl) | ((with_reducible apply zV)) | ((with_reducible apply nN);exact rfl;exact DE;exact rfl) | ((with_reducible apply mO);exact rfl;exact DE) | ((with_reducible apply bO);exact rfl;exact DE;exact rfl) | ((with_reducible apply jO);exact rfl;exact rfl) | ((with_reducible apply zS))));exact hq.out):p:=s ⟨h⟩
theorem vm {n0:Nat} {E':VE} {M':VM} {n':Nat} {E:VE} {M:VM} (σ bs:List (Nat×Nat)) (h1:mE (bZ n0 σ) (kz M bs) E' E:=by exact mm) (h2:mM (bZ n0 σ) (kz M bs) M' (VM.bump M bs):=by exact mm) (h3:rE n0 n' σ=true:=by exact rfl) (h4:Dq M bs:=by exact mm) (h5:M'.all (fun x=>Nat.blt x.1 n')=true:=by exact rfl):iu n0 E' M' n' E M:=iu.of σ bs h1 h2 h3 h4 h5
theorem dM {R:MV×Dl→Prop} {p q:Prop} {x:MV×Dl} (_hR:R x) (h:q) (s:GP q→p:=by intro hq;first | ((with_reducible apply lU);exact rfl;exact rfl;exact rfl;exact rfl;kernel_rfl;exact hR) | ((with_reducible apply mP);exact rfl;exact rfl;exact rfl;exact Nat.zero_le _;exact rfl;exact rfl;kernel_rfl;exact hR) | ((with_reducible apply tD);exact rfl;exact rfl;kernel_rfl;exact hR) | ((with_reducible apply lT);exact rfl;exact rfl;kernel_rfl;exact hR) | (repeat(first | exact hR | ((try conv=>whnf);first | exact hR | (with_reducible refine And.intro (Nat.zero_le _) ?_) | (with_reducible refine And.intro rfl ?_) | (with_reducible refine⟨_,ca (by omega),?_⟩) | (with_reducible refine⟨fun _=>?_,fun h=>Bool.noConfusion h⟩) | (with_reducible refine⟨fun h=>Bool.noConfusion h,fun _=>?_⟩) | (with_reducible refine⟨_,sv (dW _ (by omega) (by omega)),?_⟩) | (with_reducible refine⟨_,sv (bt _ (by omega) (by omega)),?_⟩) | (with_reducible refine⟨_,sv (fR _ (by omega) (by omega)),?_⟩) | (refine⟨_,rfl,?_⟩) | (refine And.intro (by omega) ?_))));exact hq.out):p:=s ⟨h⟩
theorem pl:(∀(p:Prop) [Decidable p],(decide p=true)=p)∧(∀(p:Prop) [Decidable p],(decide p=false)= ¬p)∧(∀{α:Type} [BEq α] [LawfulBEq α] {a b:α},((a == b)=true)=(a=b))∧(∀{α:Type} [BEq α] [LawfulBEq α] {a b:α},((a !=b)=true)=(a≠b))∧(∀{α:Type} (a b:α),(a≠b)= ¬(a=b))∧(!true)=false∧(!false)=true∧
  (∀{α:Type} [BEq α] [LawfulBEq α] {a b:α},((a == b)=false)=(a≠b))∧(∀{α:Type} [BEq α] [LawfulBEq α] {a b:α},((a !=b)=false)=(a=b))∧(∀b:Bool,(¬b=true)=(b=false))∧(∀b:Bool,(¬b=false)=(b=true))∧(∀{a b:Bool},((!a)=b)=(a= !b)):=
 ⟨fun p _=>decide_eq_true_eq,fun _ _=>propext decide_eq_false_iff_not,propext beq_iff_eq,propext bne_iff_ne,ne_eq,rfl,rfl,propext beq_eq_false_iff_ne,propext bne_eq_false_iff_eq,Bool.not_eq_true,Bool.not_eq_false,propext Bool.not_eq_eq_eq_not⟩
theorem en {n0 n1:Nat} {res:MV} {M1 M:VM} {vs:List MV} (rv:List MV) (h1:kF rv=res:=by exact rfl) (h2:cN.relVs (bZ n0 []) (kz M []) rv vs:=by exact lm) (h3:mM (bZ n0 []) (kz M []) M1 (VM.bump M []):=by exact mm) (h4:rE n0 n1 [] =true:=by exact rfl) (h5:M1.all (fun x=>Nat.blt x.1 n1)=true:=by exact rfl): ∃(rv:List MV) (σ bs:List (Nat×Nat)),kF rv=res∧dP n0 rv M1 n1 vs M σ bs:=⟨rv,[],[],h1,h4,trivial,h5,h2,h3⟩
theorem eb {n0 n1:Nat} {res:MV} {M1 M:VM} {vs:List MV} (rv:List MV) (σ bs:List (Nat×Nat)) (h1:kF rv=res:=by exact rfl) (h2:cN.relVs (bZ n0 σ) (kz M bs) rv vs:=by exact lm) (h3:mM (bZ n0 σ) (kz M bs) M1 (VM.bump M bs):=by exact mm) (h4:rE n0 n1 σ=true:=by exact rfl) (h5:M1.all (fun x=>Nat.blt x.1 n1)=true:=by exact rfl) (h6:Dq M bs:=by exact mm): ∃(rv:List MV) (σ bs:List (Nat×Nat)),kF rv=res∧dP n0 rv M1 n1 vs M σ bs:=⟨rv,σ,bs,h1,h4,h6,h5,h2,h3⟩
section
variable {Pg:Program} {T:bf} {N:Nat} {ents:List FuncId} {G:GS} {n0:Nat} {ops:Array Oper} {d:Tmp} {ty:TypeId} {pos:String} {after:Array Edge} {g:Option (Nat×Bool)} {rest:List Oper} {K:VK} {J:List Nat→VE→VM→Prop} {E:VE} {M:VM} {n:Nat} {f:Operand} {args:Array Operand} {ats:Array TypeId} {f0:FuncId} {vs args':List MV} {res:MV}
theorem yr (hc:aH Pg G f0 args' [] 0 res [] 0) (h:aj Pg T N ents G ops rest K ((d,res) :: E) M n) (h1: ∀R:FuncId×List MV→Prop,R (f0,vs)→(dt E f args.toList).runP R:=by exact fun _ h=>h) (hd:Nat.blt d N=true:=by exact rfl) (h2:ents.contains f0=true:=by exact rfl) (hf:dH res=true:=by exact rfl) (hm:cN.relVs (bZ 0 []) (kz M []) args' vs:=by exact lm):aC Pg T N ents G ops ⟨some d, .call ⟨.value f,args,ats⟩,ty,pos,after,g⟩ rest K E M n:=rT hd h1 h2 hc hf hm h
theorem jS (hc:aH Pg G f0 args' [] 0 res [] 0) {q:Prop} (h:q) (h1: ∀R:FuncId×List MV→Prop,R (f0,vs)→(dt E f args.toList).runP R:=by exact fun _ h=>h) (hd:Nat.blt d N=true:=by exact rfl) (h2:ents.contains f0=true:=by exact rfl) (hf:dH res=true:=by exact rfl) (hm:cN.relVs (bZ 0 []) (kz M []) args' vs:=by exact lm) (s:GP q→aj Pg T N ents G ops rest K ((d,res) :: E) M n:=by exact fun b=>ae b.out):aC Pg T N ents G ops ⟨some d, .call ⟨.value f,args,ats⟩,ty,pos,after,g⟩ rest K E M n:=yr hc (s ⟨h⟩) h1 hd h2 hf hm
theorem yv (hc:aD Pg G f0 args' res) (h:aj Pg T N ents G ops rest K ((d,res) :: E) M n) (h1: ∀R:FuncId×List MV→Prop,R (f0,vs)→(dt E f args.toList).runP R:=by exact fun _ h=>h) (hd:Nat.blt d N=true:=by exact rfl) (h2:ents.contains f0=true:=by exact rfl) (hf:dH res=true:=by exact rfl) (hm:cN.relVs (bZ 0 []) (kz M []) args' vs:=by exact lm):aC Pg T N ents G ops ⟨some d, .call ⟨.value f,args,ats⟩,ty,pos,after,g⟩ rest K E M n:=rT hd h1 h2 (aa hc) hf hm h
theorem cC (hc:aD Pg G f0 args' res) {q:Prop} (h:q) (h1: ∀R:FuncId×List MV→Prop,R (f0,vs)→(dt E f args.toList).runP R:=by exact fun _ h=>h) (hd:Nat.blt d N=true:=by exact rfl) (h2:ents.contains f0=true:=by exact rfl) (hf:dH res=true:=by exact rfl) (hm:cN.relVs (bZ 0 []) (kz M []) args' vs:=by exact lm) (s:GP q→aj Pg T N ents G ops rest K ((d,res) :: E) M n:=by exact fun b=>ae b.out):aC Pg T N ents G ops ⟨some d, .call ⟨.value f,args,ats⟩,ty,pos,after,g⟩ rest K E M n:=yv hc (s ⟨h⟩) h1 hd h2 hf hm
theorem PW (hc:aH Pg G f0 args' [] 0 res [] 0) (h:J [] ((d,res) :: E) M) (h1: ∀R:FuncId×List MV→Prop,R (f0,vs)→(dt E f args.toList).runP R:=by exact fun _ h=>h) (hd:Nat.blt d N=true:=by exact rfl) (h2:ents.contains f0=true:=by exact rfl) (hf:dH res=true:=by exact rfl) (hm:cN.relVs (bZ 0 []) (kz M []) args' vs:=by exact lm):aL Pg T N ents G true ⟨some d, .call ⟨.value f,args,ats⟩,ty,pos,after,g⟩ J E M n:=jQ hd h1 h2 [] hc hf [] trivial hm rfl h
theorem jT (hc:aH Pg G f0 args' [] 0 res [] 0) {q:Prop} (h:q) (h1: ∀R:FuncId×List MV→Prop,R (f0,vs)→(dt E f args.toList).runP R:=by exact fun _ h=>h) (hd:Nat.blt d N=true:=by exact rfl) (h2:ents.contains f0=true:=by exact rfl) (hf:dH res=true:=by exact rfl) (hm:cN.relVs (bZ 0 []) (kz M []) args' vs:=by exact lm) (s:GP q→J [] ((d,res) :: E) M:=by exact fun b=>ae b.out):aL Pg T N ents G true ⟨some d, .call ⟨.value f,args,ats⟩,ty,pos,after,g⟩ J E M n:=PW hc (s ⟨h⟩) h1 hd h2 hf hm
theorem OX (hc:aD Pg G f0 args' res) (h:J [] ((d,res) :: E) M) (h1: ∀R:FuncId×List MV→Prop,R (f0,vs)→(dt E f args.toList).runP R:=by exact fun _ h=>h) (hd:Nat.blt d N=true:=by exact rfl) (h2:ents.contains f0=true:=by exact rfl) (hf:dH res=true:=by exact rfl) (hm:cN.relVs (bZ 0 []) (kz M []) args' vs:=by exact lm):aL Pg T N ents G true ⟨some d, .call ⟨.value f,args,ats⟩,ty,pos,after,g⟩ J E M n:=jQ hd h1 h2 [] (aa hc) hf [] trivial hm rfl h
theorem dk (hc:aD Pg G f0 args' res) {q:Prop} (h:q) (h1: ∀R:FuncId×List MV→Prop,R (f0,vs)→(dt E f args.toList).runP R:=by exact fun _ h=>h) (hd:Nat.blt d N=true:=by exact rfl) (h2:ents.contains f0=true:=by exact rfl) (hf:dH res=true:=by exact rfl) (hm:cN.relVs (bZ 0 []) (kz M []) args' vs:=by exact lm) (s:GP q→J [] ((d,res) :: E) M:=by exact fun b=>ae b.out):aL Pg T N ents G true ⟨some d, .call ⟨.value f,args,ats⟩,ty,pos,after,g⟩ J E M n:=OX hc (s ⟨h⟩) h1 hd h2 hf hm
theorem yc {M0:VM} {M1:VM} {n1:Nat} (hc:aH Pg G f0 args' M0 n0 res M1 n1) (σ:List (Nat×Nat)) (h:aj Pg T N ents G ops rest K ((d,cH (qS n σ) res) :: E) (jv (qS n σ) M1 ++ iv M σ) (n + n1)) (h1: ∀R:FuncId×List MV→Prop,R (f0,vs)→(dt E f args.toList).runP R:=by exact fun _ h=>h) (hd:Nat.blt d N=true:=by exact rfl) (h2:ents.contains f0=true:=by exact rfl) (h5:rE 0 n0 σ=true:=by exact rfl) (h6:M0.all (fun x=>Nat.blt x.1 n0)=true:=by exact rfl) (hm:cN.relVs (bZ 0 σ) (kz M []) args' vs:=by exact lm) (h7:mM (bZ 0 σ) (kz M []) M0 (VM.bump M []):=by exact mm) (h3:gY M σ=true:=by exact rfl) (h4:M1.all (fun x=>Nat.blt x.1 n1)=true:=by exact rfl):aC Pg T N ents G ops ⟨some d, .call ⟨.value f,args,ats⟩,ty,pos,after,g⟩ rest K E M n:=bQ hd h1 h2 hc σ [] ⟨h5,trivial,h6,hm,h7⟩ h3 h4 h
end
end
section
def bW (n:Nat):List UInt8:=if _h:n < 128 then [UInt8.ofNat n] else UInt8.ofNat (n % 128 + 128) :: bW (n / 128)
termination_by n
theorem mQ {n:Nat} (h:n < 128):bW n= [UInt8.ofNat n] :=by rw [bW,dif_pos h]
theorem rU {n:Nat} (h: ¬ n < 128):bW n=UInt8.ofNat (n % 128 + 128) :: bW (n / 128):=by rw [bW,dif_neg h]
def readS:List UInt8→Nat→Nat→Nat×Nat×Nat
 | [],_,_=>(0,0,5)
 | x :: r,i,n=>
  if i=9∧1 < x.toNat then(0,0,6) else if 0 < i∧x.toNat=0 then(0,0,4) else
  if x.toNat < 128 then(n + x.toNat * 128 ^ i,i + 1,0) else readS r (i + 1) (n + (x.toNat - 128) * 128 ^ i)
theorem qZ {n:Nat} (h:n < 256):(UInt8.ofNat n).toNat=n:=by rw [UInt8.toNat_ofNat'];omega
theorem z7: ∀(k n:Nat),n < 128 ^ (k + 1)→1≤(bW n).length∧(bW n).length≤k + 1
 | 0,n,h=>by rw [mQ om];simp
 | k + 1,n,h=>by
  by_cases hn:n < 128
  ·rw [mQ hn];simp
  ·rw [rU hn]
   have:=z7 k (n / 128) (by rw [d₆] at h;omega)
   simp only [b₀]
   omega
theorem da {n:Nat} (h:n < 18446744073709551616):1≤(bW n).length∧(bW n).length≤10:=z7 9 n om
theorem z8: ∀(m n:Nat),n≤m→∀(i acc:Nat) (r:List UInt8),i≤9→n * 128 ^ i < 18446744073709551616→(0 < i→0 < n)→readS (bW n ++ r) i acc=(acc + n * 128 ^ i,i + (bW n).length,0)
 | m,n,hm,i,acc,r,hi,hb,h0=>by
  have h9:i=9→n≤1:=fun h=>by subst h;omega
  by_cases hn:n < 128
  ·rw [mQ hn]
   simp only [List.singleton_append,readS,qZ (show n < 256 by omega),List.length_singleton]
   rw [if_neg om,if_neg om,if_pos hn]
  ·rw [rU hn]
   have h9':i≠9:=fun h=>by have:=h9 h;omega
   simp only [List.cons_append,readS,qZ (show n % 128 + 128 < 256 by omega),b₀]
   rw [if_neg om,if_neg om,if_neg om]
   have e:n=128 * (n / 128) + n % 128:=(Nat.div_add_mod n 128).symm
   have e2:n * 128 ^ i=(n / 128) * 128 ^ (i + 1) + n % 128 * 128 ^ i:=by
    rw [d₆]
    conv=>lhs;rw [e,Nat.add_mul]
    rw [Nat.mul_comm 128 (n / 128),Nat.mul_assoc,Nat.mul_comm 128 (128 ^ i)]
   match m,hm with
   | 0,hm=>exact absurd hm om
   | m + 1,hm=>
    rw [z8 m (n / 128) om (i + 1) _ r om om om]
    rw [show n % 128 + 128 - 128=n % 128 by omega,e2]
    refine d₀ dm (d₀ dm rfl)
theorem qg {n:Nat} (h:n < 18446744073709551616) (r:List UInt8):readS (bW n ++ r) 0 0=(n,(bW n).length,0):=by
 have:=z8 n n (c₅ n) 0 0 r om om om;rw [this];refine d₀ dm (d₀ dm rfl)
theorem kH: ∀(b:List UInt8) (i n:Nat),i≤9→n < 128 ^ i→(readS b i n).2.2=0→i < (readS b i n).2.1∧(readS b i n).2.1≤i + b.length∧(readS b i n).1 < 18446744073709551616
 | [],i,n,_,_,h=>by simp [readS] at h
 | x :: r,i,n,hi,hn,h=>by
  have hx:=x.toNat_lt
  rw [readS] at h ⊢
  have hp:i≤8→128 ^ i≤72057594037927936:=fun h=>c₂ (Nat.pow_le_pow_right om h) (by decide)
  split at h
  ·cases h
  ·rename_i h1
   rw [if_neg h1]
   split at h
   ·cases h
   ·rename_i h2
    rw [if_neg h2]
    split at h
    ·rename_i h3
     rw [if_pos h3]
     refine⟨dm,by dsimp only;simp only [b₀];omega,?_⟩
     dsimp only
     rcases c₇ i 9 with h9 | h9
     ·have:=hp om
      have h5:x.toNat * 128 ^ i≤127 * 128 ^ i:=d₃ _ om
      omega
     ·have:i=9:=om
      subst this
      omega
    ·rename_i h3
     rw [if_neg h3]
     have h9:i≠9:=fun he=>h1 ⟨he,om⟩
     have:=kH r (i + 1) (n + (x.toNat - 128) * 128 ^ i) om (by
      rw [d₆]
      have:(x.toNat - 128) * 128 ^ i≤127 * 128 ^ i:=d₃ _ om
      omega) h
     simp only [b₀]
     omega
structure fA where
 num:Nat
 kind:Nat
 val:Nat
 bytes:List UInt8
 deriving DecidableEq
def fld0:fA:=⟨0,0,0,[]⟩
def bS (f:fA):List UInt8:=bW (f.num * 8 + f.kind) ++ (if f.kind=0 then bW f.val else bW f.bytes.length ++ f.bytes)
def bc (l:List fA):List UInt8:=(l.map bS).flatten
def jw (f:fA):Prop:=1≤f.num∧f.num≤536870911∧(f.kind=0∧f.bytes= [] ∧f.val < 18446744073709551616∨f.kind=2∧f.val=0∧f.bytes.length < 18446744073709551616)
def eL (b:List UInt8):fA×Nat×Nat:=
 match readS b 0 0 with
 | (tag,n,e)=>if e≠0 then(fld0,0,e) else
  if tag / 8 < 1∨536870911 < tag / 8∨(tag % 8≠0∧tag % 8≠2) then(fld0,0,4) else
  match readS (b.drop n) 0 0 with
  | (v,k,e)=>if e≠0 then(fld0,0,e) else
   if tag % 8=0 then(⟨tag / 8,0,v,[]⟩,n + k,0) else
   if b.length - (n + k) < v then(fld0,0,5) else(⟨tag / 8,2,0,(b.drop (n + k)).take v⟩,n + k + v,0)
theorem Ft {f:fA} (h:jw f) (r:List UInt8):eL (bS f ++ r)=(f,(bS f).length,0):=by
 obtain⟨num,kind,val,bytes⟩:=f;obtain⟨h1,h2,h3⟩:=h;dsimp only at h1 h2 h3;unfold eL bS;dsimp only;rw [c₄,qg om];dsimp only;rw [if_neg sm,if_neg om,d₂];rcases h3 with ⟨rfl,rfl,hv⟩ | ⟨rfl,rfl,hv⟩
 ·rw [if_pos rfl,qg hv];dsimp only;rw [if_neg sm,if_pos om,b₄,show (num * 8 + 0) / 8=num by omega]
 ·rw [if_neg (by omega: ¬ (2:Nat)=0),c₄,qg hv];dsimp only;have e:(bW (num * 8 + 2) ++ (bW bytes.length ++ (bytes ++ r))).drop ((bW (num * 8 + 2)).length + (bW bytes.length).length)=bytes ++ r:=by
   rw [← c₄,← b₄,d₂]
  rw [if_neg sm,if_neg om,if_neg (by simp only [b₄];omega),e,List.take_left,show (num * 8 + 2) / 8=num by omega];refine d₀ rfl (d₀ ?_ rfl);dsimp only;simp only [b₄];omega
theorem Ce {b:List UInt8} (h:(eL b).2.2=0):1≤(eL b).2.1∧(eL b).2.1≤b.length∧jw (eL b).1∧(eL b).1.bytes.length≤b.length:=by
 have h1:=kH b 0 0 om om;unfold eL at h ⊢;generalize readS b 0 0=t at *;obtain⟨tag,n,e⟩:=t;dsimp only at *;split at h
 ·contradiction
 rename_i he;rw [if_neg he];have he:e=0:=om;split at h
 ·cases h
 rename_i ht;rw [if_neg ht];have h2:=kH (b.drop n) 0 0 om om;generalize readS (b.drop n) 0 0=u at *;obtain⟨v,k,e2⟩:=u;dsimp only at *;split at h
 ·contradiction
 rename_i he2;rw [if_neg he2];have hh:=h1 he;have hh2:=h2 om;rw [e₀] at hh2;split at h
 ·rename_i hk;rw [if_pos hk];exact⟨dm,dm,⟨dm,dm, .inl ⟨rfl,rfl,dm⟩⟩,sm⟩
 ·rename_i hk;rw [if_neg hk];split at h
  ·cases h
  ·rename_i hv;rw [if_neg hv];have hl:((b.drop (n + k)).take v).length=v:=by rw [List.length_take,e₀];omega
   exact⟨dm,dm,⟨dm,dm, .inr ⟨rfl,rfl,dm⟩⟩,dm⟩
def eU:Nat→List UInt8→Nat→List fA→List fA×Nat×Nat
 | _,[],_,acc=>(acc,0,0)
 | 0,_ :: _,at_,_=>([],at_,3)
 | k + 1,x :: b,at_,acc=>match eL (x :: b) with
  | (f,n,e)=>if e≠0 then([],at_,e) else eU k ((x :: b).drop n) (at_ + n) (acc ++ [f])
def aJ (b:List UInt8):List fA×Nat×Nat:=eU 1024 b 0 []
theorem nO: ∀(l:List fA) (k at_:Nat) (acc:List fA),(∀f∈l,jw f)→l.length≤k→eU k (bc l) at_ acc=(acc ++ l,0,0)
 | [],k,at_,acc,_,_=>by
  have:bc [] = [] :=rfl
  rw [this,List.append_nil]
  cases k <;> rfl
 | f :: l,k + 1,at_,acc,h,hk=>by
  have h1:bc (f :: l)=bS f ++ bc l:=by simp [bc]
  have h0:1≤(bS f).length:=by
   unfold bS
   have hf:=h f sm
   have:=(da (n:=f.num * 8 + f.kind) (by unfold jw at hf;omega)).1
   rw [b₄];omega
  have hone:=Ft (h f sm) (bc l)
  rw [h1]
  generalize hx:bS f ++ bc l=x at *
  cases x with
  | nil=>have:=congrArg List.length hx;simp at this;simp [this.1] at h0
  | cons y b=>
   rw [eU,hone]
   dsimp only
   rw [if_neg sm,← hx,d₂,nO l k _ _ (fun g hg=>h g (by simp [hg])) (by simpa using hk),c₄]
   rfl
end
end Go.Proofs.YthdhlcicpcnbhaaGreatDoor
