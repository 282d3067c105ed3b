/- Parts of a proof. -/
import Derived.Test.YtohikcplmbkmeaaGreatDoorW07
open Bool renaming noConfusion → a₀,and_eq_true → c₆
open And renaming intro → a₁
open List renaming length_append → a₂,take_succ_eq_append_getElem → a₃,map_append → a₄,length_drop → a₆,drop_eq_getElem_cons → a₈,length_take → a₉,nil_append → b₀,mem_of_mem_drop → b₁,getElem_mem → b₂,mem_append → b₃,length_singleton → b₅,take_length → b₆,mem_of_mem_take → b₇,take_of_length_le → c₀,drop_length → c₁,length_map → c₃,drop_zero → c₄,getElem_cons_succ → c₇,mem_singleton → c₉,length_cons → d₁,sum_append → d₂,append_nil → d₃,length_set → d₄
open Nat renaming le_refl → a₅,zero_add → a₇,zero_le → b₄,le_of_lt → b₈,le_of_eq → c₂,mul_le_mul_right → c₈,le_trans → d₀
open Int renaming toNat_natCast → b₉,tmod_eq_emod_of_nonneg → c₅
set_option maxRecDepth 20000
set_option maxHeartbeats 16000000
set_option linter.unusedVariables false
set_option linter.unusedSimpArgs false
namespace Go.Proofs.YtohikcplmbkmeaaGreatDoor
open Go.RowKit
section
variable {G:GS}
attribute [local irreducible] ak aB aD aJ aQ vC aY aw
theorem Dp (T:bD) (f:Nat) (e:TypeId) (he:bD.find T e=some (.int .u8)): ∀k:List UInt8,(u8s k).all (eO T (f + 1) e)=true
 | [] =>rfl
 | a :: k=>by
  show(eO T (f + 1) e (.int .u8 a.toNat) && (u8s k).all (eO T (f + 1) e))=true
  rw [Dp T f e he k]
  simp [eO,he,Ih]
theorem HB: ∀(a b:List UInt8),a.length=b.length→sS (u8s a) (u8s b)=some (decide (a=b))
 | [],[],_=>rfl
 | x :: a,y :: b,h=>by
  show(match EF (.int .u8 x.toNat) (.int .u8 y.toNat),sS (u8s a) (u8s b) with | some p,some q=>some (p && q) | _,_=>none)=_
  rw [HB a b (by simpa using h)]
  have e:EF (.int .u8 x.toNat) (.int .u8 y.toNat)=some (decide (x=y)):=by
   show some (decide ((x.toNat:Int)=(y.toNat:Int)))=_
   have:((x.toNat:Int)=(y.toNat:Int))↔x=y:=by rw [Int.ofNat_inj,UInt8.toNat_inj]
   simp [this]
  rw [e]
  simp
 | [],_ :: _,h=>by simp at h
 | _ :: _,[],h=>by simp at h
theorem hY {a b:List UInt8} (h:a.length=b.length):EF (keyM a) (keyM b)=some (decide (a=b)):=HB a b h
theorem tG (f:Nat) (k:List UInt8):eO tab (f + 2) 68 (keyM k)=true:=by
 have h1:bD.find tab 68=some (.arr 32 5 1):=rfl;have h2:=Dp tab f 5 rfl k;unfold keyM;rw [eO.eq_def];simp only [h1];rw [h2];rfl
theorem eqT_key:Vr Tryz.prog tab 68=true:=by kernel_rfl
theorem gW (a b:List UInt8):Vr Tryz.prog tab 68=true∧eO tab 9 68 (keyM a)=true∧eO tab 9 68 (keyM b)=true:=⟨eqT_key,tG 7 a,tG 7 b⟩
theorem eqI (a b:Int):EF (.int .i64 a) (.int .i64 b)=some (decide (a=b)):=rfl
theorem Wj (f:Nat) (a:Int):eO tab (f + 1) 3 (.int .i64 a)=true:=by
 have h1:bD.find tab 3=some (.int .i64):=rfl;rw [eO.eq_def];simp only [h1];rfl
structure eR where
 height:Int
 time:Int
 hash:List UInt8
 app:List UInt8
 res:List UInt8
 deriving DecidableEq
abbrev fH (t:eR):MV:= .st [.int .i64 t.height, .int .i64 t.time,keyM t.hash,keyM t.app,keyM t.res]
structure ju (t:eR):Prop where
 height:cQ t.height
 time:cQ t.time
 hash:t.hash.length=32
 app:t.app.length=32
 res:t.res.length=32
theorem Mz {a b:eR} (ha:ju a) (hb:ju b):EF (fH a) (fH b)=some (decide (a=b)):=by
 have k1:=hY (a:=a.hash) (b:=b.hash) (by rw [ha.hash,hb.hash]);have k3:=hY (a:=a.app) (b:=b.app) (by rw [ha.app,hb.app]);have k4:=hY (a:=a.res) (b:=b.res) (by rw [ha.res,hb.res]);obtain⟨a1,a2,a3,a4,a5⟩:=a;obtain⟨b1,b2,b3,b4,b5⟩:=b
 show sS [.int .i64 a1, .int .i64 a2,keyM a3,keyM a4,keyM a5] [.int .i64 b1, .int .i64 b2,keyM b3,keyM b4,keyM b5] =_
 dsimp only at k1 k3 k4;simp only [sS,eqI,k1,k3,k4];rw [Option.some.injEq,Bool.eq_iff_iff];simp [eR.mk.injEq]
theorem Dq (t:eR):eO tab 9 70 (fH t)=true:=by
 have h1:bD.find tab 70=some (.struct [(0,3),(1,3),(2,68),(34,68),(66,68)] 98):=rfl;have h2:bD.find tab 3=some (.int .i64):=rfl;have h3:bD.find tab 68=some (.arr 32 5 1):=rfl;unfold fH;rw [eO.eq_def];simp only [h1,confMs,h2,h3,tG 6,Wj 7];rfl
theorem HC (a b:eR):Vr Tryz.prog tab 70=true∧eO tab 9 70 (fH a)=true∧eO tab 9 70 (fH b)=true:=⟨by kernel_rfl,Dq a,Dq b⟩
structure dM where
 hd:zo
 txs:List (List UInt8)
 deriving DecidableEq
abbrev blkM (b:dM):MV:= .st [hdM b.hd, .sl b.txs.length (b.txs.map bo)]
def gQ (t:eR) (b:dM) (nodes maxBytes:Int):Nat:=
 if nodes < 1∨8 < nodes∨t.height < 0∨1073741824 < t.height then 1 else if b.hd.height≠t.height + 1∨1073741824 < b.hd.height then 30 else if b.hd.prop≠b.hd.height % nodes then 36 else
 if b.hd.time≤t.time∨1099511627776 < b.hd.time then 31 else if b.hd.par≠t.hash then 32 else if b.hd.app≠t.app then 33 else if b.hd.res≠t.res then 34 else if b.hd.txs≠eL b.txs then 35 else
 if 512 < b.txs.length∨maxBytes < sumB b.txs then 3 else 0
theorem MA (t:eR) (b:dM) (nodes maxBytes:Int) (ht:ju t) (hb:kX b.hd) (hn:cQ nodes) (hm:cQ maxBytes) (hl:b.txs.length < 60000) (hx: ∀x∈b.txs,x.length < 300000000):aE Tryz.prog G 65 [fH t,blkM b, .int .i64 nodes, .int .i64 maxBytes] (.int .i64 (gQ t b nodes maxBytes)):=by
 have cr:=u9 (G:=G) _ b.txs (a₅ _) om hx;have cs:=Mo (G:=G) b.txs om (fun x h=>b₈ (hx x h));have Kf:=rP 300000000 b.txs fun x h=>⟨b₈ (hx x h),by have:=hx x h;unfold bm;omega⟩
 have J7:b.txs.length * (300000000 + 11)≤60000 * 300000011:=c₈ _ (b₈ hl);have Ga:=gB b.txs;generalize hr:gQ t b nodes maxBytes=R;obtain⟨⟨height,time,prop,par,txs,app,res⟩,l⟩:=b;obtain⟨mP,sC,pX,yC,yG⟩:=t;obtain⟨h1,h2,h3,h4,h5,h6,h7⟩:=hb;obtain⟨t1,t2,t3,t4,t5⟩:=ht;unfold gQ at hr;unfold ee at cs;try unfold ee at cr
 unfold cQ at *;dsimp only at h1 h2 h3 h4 h5 h6 h7 t1 t2 t3 t4 t5 hl hx hr cr cs Kf J7 Ga;have q1:=aj.mk (hY (a:=par) (b:=pX) (by rw [h4,t3]));have q2:=aj.mk (hY (a:=app) (b:=yC) (by rw [h6,t4]));have q3:=aj.mk (hY (a:=res) (b:=yG) (by rw [h7,t5]));have q4:=aj.mk (hY (a:=txs) (b:=eL l) (by rw [h5,Ga]));have s1:=bH.mk (gW par pX);have s2:=bH.mk (gW app yC);have s3:=bH.mk (gW res yG);have s4:=bH.mk (gW txs (eL l));generalize eL l=rt at *;generalize sumB l=sm at *;clear hx Ga;dsimp only [fH,blkM,hdM];refine bA seat Tryz.func65 97 ?_;refine aa ?_;by_cases c1:nodes < 1∨8 < nodes∨mP < 0∨1073741824 < mP
 ·rw [if_pos c1] at hr;subst hr;(iterate 6 ((all_goals(refine aa ?_));(all_goals(first | ((first | refine ag rfl rfl ?_ rfl ?_ | refine ad rfl ?_ ?_);all_goals(intro h;(try simp only [pl] at h);(try (exfalso;omega)))) | skip))));all_goals(refine au ?_)
  all_goals rfl
 rw [if_neg c1] at hr;have gf:=bH.mk (show nodes≠0 by omega);(iterate 4 ((all_goals(refine aa ?_));(all_goals(first | ((first | refine ag rfl rfl ?_ rfl ?_ | refine ad rfl ?_ ?_);all_goals(intro h;(try simp only [pl] at h);(try (exfalso;omega)))) | skip))));refine aa ?_;by_cases c2:height≠mP + 1∨1073741824 < height
 ·rw [if_pos c2] at hr;subst hr;(iterate 4 ((all_goals(refine aa ?_));(all_goals(first | ((first | refine ag rfl rfl ?_ rfl ?_ | refine ad rfl ?_ ?_);all_goals(intro h;(try simp only [pl] at h);(try (exfalso;omega)))) | skip))));all_goals(refine au ?_)
  all_goals rfl
 rw [if_neg c2] at hr;(iterate 2 ((all_goals(refine aa ?_));(all_goals(first | ((first | refine ag rfl rfl ?_ rfl ?_ | refine ad rfl ?_ ?_);all_goals(intro h;(try simp only [pl] at h);(try (exfalso;omega)))) | skip))));refine aa ?_;have sF:height.tmod nodes=height % nodes:=c₅ om;refine al [ae 0,ae 1,ae 2,ae 3,ae 4,ae 5,ae 6,ae 7] ?_;refine aa ?_;refine ad rfl ?_ ?_ <;> intro h
 ·have c3:prop≠height % nodes:=by
   rw [← sF];simpa using h
  rw [if_pos c3] at hr;subst hr;refine aa ?_;refine au ?_;rfl
 have c3:prop=height % nodes:=by
  rw [← sF];simpa using h
 rw [if_neg (by simp [c3])] at hr;refine aa ?_;by_cases c4:time≤sC∨1099511627776 < time
 ·rw [if_pos c4] at hr;subst hr;(iterate 4 ((all_goals(refine aa ?_));(all_goals(first | ((first | refine ag rfl rfl ?_ rfl ?_ | refine ad rfl ?_ ?_);all_goals(intro h;(try simp only [pl] at h);(try (exfalso;omega)))) | skip))));all_goals(refine au ?_)
  all_goals rfl
 rw [if_neg c4] at hr;(iterate 2 ((all_goals(refine aa ?_));(all_goals(first | ((first | refine ag rfl rfl ?_ rfl ?_ | refine ad rfl ?_ ?_);all_goals(intro h;(try simp only [pl] at h);(try (exfalso;omega)))) | skip))));refine aa ?_;refine ad rfl ?_ ?_ <;> intro h
 ·have c5:par≠pX:=by simpa using h
  rw [if_pos c5] at hr;subst hr;refine aa ?_;refine au ?_;rfl
 have c5:par=pX:=by simpa using h
 rw [if_neg (by simp [c5])] at hr;refine aa ?_;refine ad rfl ?_ ?_ <;> intro h
 ·have c6:app≠yC:=by simpa using h
  rw [if_pos c6] at hr;subst hr;refine aa ?_;refine au ?_;rfl
 have c6:app=yC:=by simpa using h
 rw [if_neg (by simp [c6])] at hr;refine aa ?_;refine ad rfl ?_ ?_ <;> intro h
 ·have c7:res≠yG:=by simpa using h
  rw [if_pos c7] at hr;subst hr;refine aa ?_;refine au ?_;rfl
 have c7:res=yG:=by simpa using h
 rw [if_neg (by simp [c7])] at hr;refine aa ?_;refine al [ae 0,ae 1,ae 2,ae 3,dF 4,ae 5,ae 6] ?_;refine aa ?_;refine di (cr) ?_;refine ad rfl ?_ ?_ <;> intro h
 ·have c8:txs≠rt:=by simpa using h
  rw [if_pos c8] at hr;subst hr;refine aa ?_;refine au ?_;rfl
 have c8:txs=rt:=by simpa using h
 rw [if_neg (by simp [c8])] at hr;refine aa ?_;by_cases c9:512 < l.length∨maxBytes < sm
 ·rw [if_pos c9] at hr;subst hr;(iterate 5 ((all_goals(refine aa ?_));(all_goals(first | (refine ah rfl aA rfl (src (cs)) rfl rfl ?_) | ((first | refine ag rfl rfl ?_ rfl ?_ | refine ad rfl ?_ ?_);all_goals(intro h;(try simp only [pl] at h);(try (exfalso;omega)))) | skip))));all_goals(refine au ?_)
  all_goals rfl
 rw [if_neg c9] at hr;subst hr;(iterate 5 ((all_goals(refine aa ?_));(all_goals(first | (refine ah rfl aA rfl (src (cs)) rfl rfl ?_) | ((first | refine ag rfl rfl ?_ rfl ?_ | refine ad rfl ?_ ?_);all_goals(intro h;(try simp only [pl] at h);(try (exfalso;omega)))) | skip))));all_goals(refine au ?_)
 all_goals rfl
theorem tH (t:eR) (b:dM) (nodes maxBytes:Int) (ht:ju t) (hb:kX b.hd) (hn:cQ nodes) (hm:cQ maxBytes) (hl:b.txs.length < 60000) (hx: ∀x∈b.txs,x.length < 300000000):aE Tryz.prog G 60 [fH t,blkM b, .int .i64 nodes, .int .i64 maxBytes] (.int .i64 (gQ t b nodes maxBytes)):=by
 have cr:=HA (G:=G) b.txs hl hx;have cs:=TO (G:=G) b.txs om (fun x h=>b₈ (hx x h));have Kf:=rP 300000000 b.txs fun x h=>⟨b₈ (hx x h),by have:=hx x h;unfold bm;omega⟩
 have J7:b.txs.length * (300000000 + 11)≤60000 * 300000011:=c₈ _ (b₈ hl);have Ga:=gB b.txs;generalize hr:gQ t b nodes maxBytes=R;obtain⟨⟨height,time,prop,par,txs,app,res⟩,l⟩:=b;obtain⟨mP,sC,pX,yC,yG⟩:=t;obtain⟨h1,h2,h3,h4,h5,h6,h7⟩:=hb;obtain⟨t1,t2,t3,t4,t5⟩:=ht;unfold gQ at hr;unfold ee at cs;try unfold ee at cr
 unfold cQ at *;dsimp only at h1 h2 h3 h4 h5 h6 h7 t1 t2 t3 t4 t5 hl hx hr cr cs Kf J7 Ga;have q1:=aj.mk (hY (a:=par) (b:=pX) (by rw [h4,t3]));have q2:=aj.mk (hY (a:=app) (b:=yC) (by rw [h6,t4]));have q3:=aj.mk (hY (a:=res) (b:=yG) (by rw [h7,t5]));have q4:=aj.mk (hY (a:=txs) (b:=eL l) (by rw [h5,Ga]));have s1:=bH.mk (gW par pX);have s2:=bH.mk (gW app yC);have s3:=bH.mk (gW res yG);have s4:=bH.mk (gW txs (eL l));generalize eL l=rt at *;generalize sumB l=sm at *;clear hx Ga;dsimp only [fH,blkM,hdM];refine bA seat Tryz.func60 97 ?_;refine aa ?_;by_cases c1:nodes < 1∨8 < nodes∨mP < 0∨1073741824 < mP
 ·rw [if_pos c1] at hr;subst hr;(iterate 6 ((all_goals(refine aa ?_));(all_goals(first | ((first | refine ag rfl rfl ?_ rfl ?_ | refine ad rfl ?_ ?_);all_goals(intro h;(try simp only [pl] at h);(try (exfalso;omega)))) | skip))));all_goals(refine au ?_)
  all_goals rfl
 rw [if_neg c1] at hr;have gf:=bH.mk (show nodes≠0 by omega);(iterate 4 ((all_goals(refine aa ?_));(all_goals(first | ((first | refine ag rfl rfl ?_ rfl ?_ | refine ad rfl ?_ ?_);all_goals(intro h;(try simp only [pl] at h);(try (exfalso;omega)))) | skip))));refine aa ?_;by_cases c2:height≠mP + 1∨1073741824 < height
 ·rw [if_pos c2] at hr;subst hr;(iterate 4 ((all_goals(refine aa ?_));(all_goals(first | ((first | refine ag rfl rfl ?_ rfl ?_ | refine ad rfl ?_ ?_);all_goals(intro h;(try simp only [pl] at h);(try (exfalso;omega)))) | skip))));all_goals(refine au ?_)
  all_goals rfl
 rw [if_neg c2] at hr;(iterate 2 ((all_goals(refine aa ?_));(all_goals(first | ((first | refine ag rfl rfl ?_ rfl ?_ | refine ad rfl ?_ ?_);all_goals(intro h;(try simp only [pl] at h);(try (exfalso;omega)))) | skip))));refine aa ?_;have sF:height.tmod nodes=height % nodes:=c₅ om;refine al [ae 0,ae 1,ae 2,ae 3,ae 4,ae 5,ae 6,ae 7] ?_;refine aa ?_;refine ad rfl ?_ ?_ <;> intro h
 ·have c3:prop≠height % nodes:=by
   rw [← sF];simpa using h
  rw [if_pos c3] at hr;subst hr;refine aa ?_;refine au ?_;rfl
 have c3:prop=height % nodes:=by
  rw [← sF];simpa using h
 rw [if_neg (by simp [c3])] at hr;refine aa ?_;by_cases c4:time≤sC∨1099511627776 < time
 ·rw [if_pos c4] at hr;subst hr;(iterate 4 ((all_goals(refine aa ?_));(all_goals(first | ((first | refine ag rfl rfl ?_ rfl ?_ | refine ad rfl ?_ ?_);all_goals(intro h;(try simp only [pl] at h);(try (exfalso;omega)))) | skip))));all_goals(refine au ?_)
  all_goals rfl
 rw [if_neg c4] at hr;(iterate 2 ((all_goals(refine aa ?_));(all_goals(first | ((first | refine ag rfl rfl ?_ rfl ?_ | refine ad rfl ?_ ?_);all_goals(intro h;(try simp only [pl] at h);(try (exfalso;omega)))) | skip))));refine aa ?_;refine ad rfl ?_ ?_ <;> intro h
 ·have c5:par≠pX:=by simpa using h
  rw [if_pos c5] at hr;subst hr;refine aa ?_;refine au ?_;rfl
 have c5:par=pX:=by simpa using h
 rw [if_neg (by simp [c5])] at hr;refine aa ?_;refine ad rfl ?_ ?_ <;> intro h
 ·have c6:app≠yC:=by simpa using h
  rw [if_pos c6] at hr;subst hr;refine aa ?_;refine au ?_;rfl
 have c6:app=yC:=by simpa using h
 rw [if_neg (by simp [c6])] at hr;refine aa ?_;refine ad rfl ?_ ?_ <;> intro h
 ·have c7:res≠yG:=by simpa using h
  rw [if_pos c7] at hr;subst hr;refine aa ?_;refine au ?_;rfl
 have c7:res=yG:=by simpa using h
 rw [if_neg (by simp [c7])] at hr;refine aa ?_;refine al [ae 0,ae 1,ae 2,ae 3,dF 4,ae 5,ae 6] ?_;refine aa ?_;refine di (cr) ?_;refine ad rfl ?_ ?_ <;> intro h
 ·have c8:txs≠rt:=by simpa using h
  rw [if_pos c8] at hr;subst hr;refine aa ?_;refine au ?_;rfl
 have c8:txs=rt:=by simpa using h
 rw [if_neg (by simp [c8])] at hr;refine aa ?_;by_cases c9:512 < l.length∨maxBytes < sm
 ·rw [if_pos c9] at hr;subst hr;(iterate 5 ((all_goals(refine aa ?_));(all_goals(first | (refine ah rfl aA rfl (src (cs)) rfl rfl ?_) | ((first | refine ag rfl rfl ?_ rfl ?_ | refine ad rfl ?_ ?_);all_goals(intro h;(try simp only [pl] at h);(try (exfalso;omega)))) | skip))));all_goals(refine au ?_)
  all_goals rfl
 rw [if_neg c9] at hr;subst hr;(iterate 5 ((all_goals(refine aa ?_));(all_goals(first | (refine ah rfl aA rfl (src (cs)) rfl rfl ?_) | ((first | refine ag rfl rfl ?_ rfl ?_ | refine ad rfl ?_ ?_);all_goals(intro h;(try simp only [pl] at h);(try (exfalso;omega)))) | skip))));all_goals(refine au ?_)
 all_goals rfl
def iF (t:eR) (time prop:Int) (raws:List (List UInt8)):dM:=⟨⟨t.height + 1,if t.time + 1 > time then t.time + 1 else time,prop,t.hash,eL raws,t.app,t.res⟩,raws⟩
abbrev keyZ:MV:=keyM (List.replicate 32 0)
abbrev Sp:MV:= .st [.int .i64 0, .int .i64 0, .int .i64 0,keyZ,keyZ,keyZ,keyZ]
theorem MC (t:eR) (time prop:Int) (raws:List (List UInt8)) (h1: -1000≤t.height∧t.height < 4611686018427387904) (h2: -1000≤t.time∧t.time < 4611686018427387904) (hl:raws.length < 60000) (hx: ∀x∈raws,x.length < 300000000):aT Tryz.prog G 215 [fH t, .int .i64 time, .int .i64 prop,ee raws] [] 0 (blkM (iF t time prop raws)) [] 0:=by
 have cr:=u9 (G:=G) _ raws (a₅ _) om hx;obtain⟨height,sC,hash,app,res⟩:=t;unfold iF ee;dsimp only at *;generalize eL raws=rt at *;dsimp only [fH,blkM,hdM];refine dK seat Tryz.func215 47 ?_;refine aa ?_;refine al [ae 0,ae 1,ae 2,ae 3,ae 4,ae 5,ae 6,ae 7,ae 8,ae 9,ae 10,ae 11,dF 12,ae 13,ae 14,ae 15,ae 16,ae 17,ae 18,ae 19,ae 20] ?_;refine aa ?_;refine di (cr) ?_;generalize hT:(if sC + 1 > time then sC + 1 else time)=T at *;refine av Nat (fun k=> [(33, .int .i64 k),(32, .int .i64 raws.length),(31, .sl raws.length (raws.map bo)),(9, .ptr 1 132 0 0 []),(8, .ptr 0 132 0 0 [])]) (fun k=> [(0,⟨81,132,false,0,[.st [Sp, .nils]]⟩),(1,⟨81,132,false,0,[.st [.st [.int .i64 (height + 1), .int .i64 T, .int .i64 prop,keyM hash,keyM rt,keyM app,keyM res], .ms 2 1 0 k]]⟩),(2,⟨41,1,true,0,(raws.take k).map bo⟩)]) 3 (fun k=>k≤raws.length) (fun k=>raws.length - k) 0 (b₄ _) (by rw [List.take_zero];exact(vm [(0,_),(1,_)] [])) ?_;intro k hk;try dsimp only
 refine aa ?_;refine ad rfl ?_ ?_ <;> intro h
 ·have aC:k < raws.length:=by have:=ot h;omega
  have aH:=iC aC;have kS:=hx _ (b₂ aC);have cW:(raws.take (k + 1)).map bo=(raws.take k).map bo ++ [bo raws[k]] :=by rw [a₃ aC,a₄];rfl
  have ni:((raws.take k).map bo).length=k:=by simp;omega
  generalize raws[k] =b at *;replace aH:bI (raws.map bo) raws.length (k:Int)=some (.sl b.length (u8s b)):=aH;have aH:=aj.mk aH;have hsf:=bH.mk (show 0 + b.length≤(u8s b).length by simp [u8s]);have qw:cutL (u8s b) 0 (0 + b.length)=u8s b:=by rw [cut_u8,c₄,a₇,Nat.sub_zero,b₆]
  refine aa ?_;refine al [ae 0,ae 1,ae 2,ae 3,ae 4,ae 5,ae 6,ae 7,ae 8] ?_;refine aa ?_;refine bj rfl (by intro R hR;refine da hR ?_;refine a₁ ((bX b)) ?_;refine a₁ ⟨rfl,ai (by kernel_rfl) pf⟩ ?_;refine⟨u8s b,sv (by show [] ++ u8s b=_;rw [b₀]),b.length,sv pf,?_⟩;exact hR) rfl ?_;refine aa ?_;refine bj rfl (by intro R hR;refine da hR ?_;(refine a₁ (a₅ _) ?_;refine⟨_,rfl,?_⟩;refine a₁ ⟨ni,ai (by kernel_rfl) pf⟩ ?_;refine⟨(raws.take (k + 1)).map bo,sv (by rw [cW];show _ ++ [MV.sl b.length (cutL (u8s b) 0 (0 + b.length))] =_;rw [qw];rfl),k + 1,sv pf,?_⟩);exact hR) rfl ?_;refine aa ?_;exact⟨k + 1,by show k + 1≤raws.length;omega,by show raws.length - (k + 1) < raws.length - k;omega,(by dsimp only;exact(vm [(0,_),(1,_),(2,_)] []))⟩
 ·have aC:k=raws.length:=by have:=oF h;omega
  subst aC;rw [b₆];refine aa ?_;refine au ?_;refine⟨[_],[],[(2,raws.length)],rfl,rfl,?_,rfl,⟨?_,trivial⟩,?_⟩
  ·exact⟨by show raws.length≤(raws.map bo).length;simp,trivial⟩
  ·exact .inr ⟨_,rfl,⟨.inl ⟨rfl,rfl⟩, .inr ⟨rfl,rfl,rfl,c₂ (a₇ _),bc bo raws⟩,trivial⟩⟩
  ·exact mm
theorem Qx (t:eR) (time prop:Int) (raws:List (List UInt8)) (h1: -1000≤t.height∧t.height < 4611686018427387904) (h2: -1000≤t.time∧t.time < 4611686018427387904) (hl:raws.length < 60000) (hx: ∀x∈raws,x.length < 300000000):aT Tryz.prog G 42 [fH t, .int .i64 time, .int .i64 prop,ee raws] [] 0 (blkM (iF t time prop raws)) [] 0:=by
 have cr:=HA (G:=G) raws hl hx;have co:=Jm (G:=G) raws om (fun b h=>by have:=hx b h;omega);obtain⟨height,sC,hash,app,res⟩:=t;unfold iF;unfold ee at *;dsimp only at *;generalize eL raws=rt at *;dsimp only [fH,blkM,hdM];refine dK seat Tryz.func42 32 ?_;refine aa ?_;refine al [ae 0,ae 1,ae 2,ae 3,ae 4,ae 5,ae 6,ae 7,ae 8,ae 9,ae 10,ae 11,dF 12,ae 13,ae 14,ae 15,ae 16,ae 17,ae 18,ae 19] ?_;refine aa ?_;refine di (cr) ?_;generalize hT:(if sC + 1 > time then sC + 1 else time)=T at *;refine al [ae 0,ae 1,dF 2,ae 3,ae 4] ?_;refine aa ?_;refine tq (co) ?_;refine au ?_;exact en [_]
def kz (l:eh):eR:=⟨0,0,iH (pC l),pC l,mW []⟩
theorem rU (l:eh):(pC l).length=32:=gB _
theorem MD (l:eh) (hl:fG l):aE Tryz.prog G 64 [eo l] (fH (kz l)):=by
 have c1:=LW (G:=G) l hl;have hd:=rU l;have c2:=nS (G:=G) (pC l) om;have c3:=LX (G:=G) [] sm sm;unfold kz;obtain⟨acs,col⟩:=l;generalize pC ⟨acs,col⟩=d at *;generalize mW [] =rd at *;rw [hd,← eA hd] at c2;generalize iH d=sd at *;unfold eo at *;dsimp only at *;dsimp only [fH,blkM,hdM];refine bA seat Tryz.func64 11 ?_;refine aa ?_;refine dZ (c1) ?_;refine al [ae 0,dF 1,ae 2,dF 3,ae 4,ae 5] ?_;refine aa ?_;refine di (c2) ?_;refine di (c3) ?_;refine au ?_;rfl
theorem ME (l:eh) (hl:fG l):aE Tryz.prog G 58 [eo l] (fH (kz l)):=by
 have c1:=Hn (G:=G) l hl;have hd:=rU l;have c2:=AN (G:=G) (pC l) om;have c3:=Ho (G:=G) [] sm sm;unfold kz;obtain⟨acs,col⟩:=l;generalize pC ⟨acs,col⟩=d at *;generalize mW [] =rd at *;rw [hd,← eA hd] at c2;generalize iH d=sd at *;unfold eo at *;dsimp only at *;dsimp only [fH,blkM,hdM];refine bA seat Tryz.func58 11 ?_;refine aa ?_;refine dZ (c1) ?_;refine al [ae 0,dF 1,ae 2,dF 3,ae 4,ae 5] ?_;refine aa ?_;refine di (c2) ?_;refine di (c3) ?_;refine au ?_;rfl
def pE (b:dM) (l:eh) (r:List ga):eR:=⟨b.hd.height,b.hd.time,mY b.hd,pC l,mW r⟩
theorem MF (b:dM) (l:eh) (r:List ga) (hb:kX b.hd) (hl:fG l) (hr:r.length≤50000) (qv: ∀x∈r,jI x):aE Tryz.prog G 66 [blkM b,eo l, .sl r.length (r.map fc)] (fH (pE b l r)):=by
 have c1:=xf (G:=G) b.hd hb;have c2:=LW (G:=G) l hl;have c3:=LX (G:=G) r hr qv;unfold pE;obtain⟨⟨height,time,prop,par,txs,app,res⟩,raws⟩:=b;obtain⟨acs,col⟩:=l;dsimp only at *;generalize mY ⟨height,time,prop,par,txs,app,res⟩=hs at *;generalize pC ⟨acs,col⟩=d at *;generalize mW r=rd at *;unfold eo at *;dsimp only at *;dsimp only [fH,blkM,hdM];refine bA seat Tryz.func66 21 ?_;refine aa ?_;refine al [ae 0,ae 1,ae 2,ae 3,ae 4,ae 5,ae 6,ae 7,dF 8,ae 9,dF 10,ae 11,dF 12,ae 13,ae 14] ?_;refine aa ?_;refine di (c1) ?_;refine di (c2) ?_;refine di (c3) ?_;refine au ?_;rfl
theorem MG (t:eR) (b:dM) (l:eh) (r:List ga) (hb:kX b.hd) (hl:fG l) (hr:r.length≤50000) (qv: ∀x∈r,jI x):aE Tryz.prog G 59 [fH t,blkM b,eo l, .sl r.length (r.map fc)] (fH (pE b l r)):=by
 have c1:=Qw (G:=G) b.hd hb;have c2:=Hn (G:=G) l hl;have c3:=Ho (G:=G) r hr qv;unfold pE;obtain⟨⟨height,time,prop,par,txs,app,res⟩,raws⟩:=b;obtain⟨acs,col⟩:=l;dsimp only at *;generalize mY ⟨height,time,prop,par,txs,app,res⟩=hs at *;generalize pC ⟨acs,col⟩=d at *;generalize mW r=rd at *;unfold eo at *;dsimp only at *;obtain⟨t1,t2,t3,t4,t5⟩:=t;dsimp only [fH,blkM,hdM];refine bA seat Tryz.func59 23 ?_;refine aa ?_;refine al [ae 0,ae 1,ae 2,ae 3,ae 4,ae 5,ae 6,ae 7,dF 8,ae 9,dF 10,ae 11,dF 12,ae 13,ae 14] ?_;refine aa ?_;refine di (c1) ?_;refine di (c2) ?_;refine di (c3) ?_;refine au ?_;rfl
structure fU where
 key:List UInt8
 raw:List UInt8
 sender:List UInt8
 seq:Int
 gas:Int
 prio:Int
 height:Int
 time:Int
 order:Int
 peers:List Int
def bU (e:fU):MV:= .st [keyM e.key, .sl e.raw.length (u8s e.raw), .str e.sender, .int .u64 e.seq, .int .u64 e.gas, .int .u64 e.prio, .int .i64 e.height, .int .i64 e.time, .int .i64 e.order,jm e.peers]
theorem fu {l:List fU} {k:Nat} (hk:k < l.length):bI (l.map bU) l.length (k:Int)=some (bU l[k]):=dB hk (by simp [hk])
def bytesS (l:List fU):Nat:=(l.map fun e=>e.raw.length).sum
theorem kQ (l:List fU) {k:Nat} (hk:k < l.length):bytesS (l.take (k + 1))=bytesS (l.take k) + l[k].raw.length:=by
 unfold bytesS;rw [a₃ hk,a₄,d₂];simp
theorem zr (l:List fU) (B:Nat) (eG: ∀e∈l,e.raw.length≤B) (k:Nat):bytesS (l.take k)≤B * k:=by
 induction k with
 | zero=>simp [bytesS]
 | succ k ih=>
  rcases Nat.lt_or_ge k l.length with h | h
  ·rw [kQ l h,Nat.mul_succ];have:=eG _ (b₂ h);omega
  ·rw [c₀ om];rw [c₀ h] at ih;rw [Nat.mul_succ];omega
theorem Qy (l:List fU) (hl:l.length < 1000000) (eG: ∀e∈l,e.raw.length≤1000000):aE Tryz.prog G 258 [.sl l.length (l.map bU)] (.int .i64 (bytesS l)):=by
 refine bA seat Tryz.func258 19 ?_;refine aa ?_;refine av Nat (fun k=> [(8, .int .i64 k),(7, .int .i64 l.length),(6, .sl l.length (l.map bU)),(3, .int .i64 (bytesS (l.take k)))]) (fun _=> []) 0 (fun k=>k≤l.length) (fun k=>l.length - k) 0 (b₄ _) (vm [] []) ?_;intro k hk;try dsimp only
 refine aa ?_;refine ad rfl ?_ ?_ <;> intro h
 ·have aC:k < l.length:=by have:=ot h;omega
  have Y2:=eG _ (b₂ aC);have hb:=zr l 1000000 eG k;have hs:=kQ l aC;have aH:=fu aC;generalize l[k] =e at *;generalize hv:bytesS (l.take k)=v at *;have aH:=aj.mk aH;refine aa ?_;exact⟨k + 1,by show k + 1≤l.length;omega,by show l.length - (k + 1) < l.length - k;omega,(by dsimp only;rw [hs];exact(vm [] []))⟩
 ·have aC:k=l.length:=by have:=oF h;omega
  subst aC;rw [b₆];refine aa ?_;refine au ?_;rfl
def yw (x y:fU):Bool:=decide (x.prio < y.prio∨(x.prio=y.prio∧y.order < x.order))
def uL (e:fU):List fU→List fU
 | [] => [e]
 | y :: l=>bif yw y e then y :: uL e l else e :: y :: l
def Qz:List fU→List fU
 | [] => []
 | e :: l=>uL e (Qz l)
def bV (l:List fU):List fU:=Qz l.reverse
def Dr (c b s t m:Int):Bool:=decide (c < t∧0≤m∧b + max s 0≤m)
theorem zt (e:fU): ∀l,(uL e l).Perm (e :: l)
 | [] => .refl _
 | y :: l=>by
  unfold uL
  cases yw y e with
  | true=>exact ((zt e l).cons y).trans (.swap e y l)
  | false=>exact .refl _
theorem zu: ∀l,(Qz l).Perm l
 | [] => .refl _
 | e :: l=>(zt e (Qz l)).trans ((zu l).cons e)
theorem qm (l:List fU):(bV l).Perm l:=(zu _).trans (List.reverse_perm l)
theorem FL {a b:List fU} (h:a.Perm b):bytesS a=bytesS b:=by
 unfold bytesS
 induction h with
 | nil=>rfl
 | cons x _ ih=>simp [ih]
 | swap x y l=>simp;omega
 | trans _ _ h1 h2=>exact h1.trans h2
def selG (p s t m:Int):List fU→Int→Int→List fU×Int×Int
 | [],c,b=>([],c,b)
 | e :: l,c,b=>match Dr c b s t m || decide (p≤e.prio) with
  | true=>([],c,b)
  | false=>match selG p s t m l (c - 1) (b - e.raw.length) with
   | (v,c',b')=>(e :: v,c',b')
def oo (p s t m:Int) (l:List fU):List (List UInt8)×Bool:=match selG p s t m (bV l) l.length (bytesS l) with
 | (v,c,b)=>match Dr c b s t m with
  | true=>(v.map (·.key),true)
  | false=>([],false)
theorem MH {O:List fU} {n k:Nat} (hn:O.length=n) (hk:k < n):bI (O.map bU) n (k:Int)=some (bU (O[k]'om)):=by subst hn;exact fu hk
theorem rV (l:List fU) (k:Nat):bytesS (l.take k) + bytesS (l.drop k)=bytesS l:=by
 unfold bytesS;rw [← d₂,← a₄,List.take_append_drop]
def TX (x:List (List UInt8)×Bool):MV:= .tup [.sl x.1.length (x.1.map keyM), .bool x.2]
def QA (p s t m:Int) (O:List fU) (n B k:Nat):Prop:= ∃v c b,selG p s t m (O.drop k) ((n:Int) - k) ((B:Int) - bytesS (O.take k))=(v,c,b)∧selG p s t m O n B=(O.take k ++ v,c,b)
theorem zw {p s t m:Int} {O:List fU} {n B k:Nat} (hk:k < O.length) (h:QA p s t m O n B k) (hr:(Dr ((n:Int) - k) ((B:Int) - bytesS (O.take k)) s t m || decide (p≤O[k].prio))=false):QA p s t m O n B (k + 1):=by
 obtain⟨v,c,b,h1,h2⟩:=h;rw [a₈ hk,selG,hr] at h1;generalize hg:selG p s t m (O.drop (k + 1)) ((n:Int) - k - 1) ((B:Int) - bytesS (O.take k) - O[k].raw.length)=r at h1;obtain⟨v',c',b'⟩:=r;dsimp only at h1;injection h1 with e1 e2
 injection e2 with e2 e3
 subst e1 e2 e3;refine⟨v',c',b',?_,?_⟩
 ·rw [kQ O hk];rw [← hg];congr 1 <;> omega
 ·rw [h2,a₃ hk,List.append_assoc];rfl
theorem rW {p s t m:Int} {O:List fU} {n B k:Nat} (h:QA p s t m O n B k) (hr:k=O.length∨∃hk:k < O.length,(Dr ((n:Int) - k) ((B:Int) - bytesS (O.take k)) s t m || decide (p≤O[k].prio))=true) :
  selG p s t m O n B=(O.take k,(n:Int) - k,(B:Int) - bytesS (O.take k)):=by
 obtain⟨v,c,b,h1,h2⟩:=h
 rcases hr with rfl | ⟨hk,hr⟩
 ·rw [c₁,selG] at h1
  injection h1 with e1 e2
  injection e2 with e2 e3
  subst e1 e2 e3
  rw [h2,d₃]
 ·rw [a₈ hk,selG,hr] at h1
  injection h1 with e1 e2
  injection e2 with e2 e3
  subst e1 e2 e3
  rw [h2,d₃]
theorem HD (e:fU): ∀(out:List fU) (k:Nat),k≤out.length→(∀j (hj:j < out.length),j < k→yw out[j] e=true)→(∀hk:k < out.length,yw out[k] e=false)→uL e out=out.take k ++ e :: out.drop k
 | [],k,_,_,_=>by simp [uL]
 | y :: out,0,_,_,h2=>by
  have:=h2 sm
  unfold uL
  simp at this
  rw [this];rfl
 | y :: out,k + 1,hk,h1,h2=>by
  have h0:=h1 0 sm om
  unfold uL
  simp at h0
  rw [h0]
  have:=HD e out k (by simpa using hk) (fun j hj hjk=>by have:=h1 (j + 1) (by simpa using hj) om;rwa [c₇] at this) (fun hk=>by have:=h2 (by simpa using hk);rwa [c₇] at this)
  rw [this];rfl
theorem FN (l:List fU) {i:Nat} (hi:i < l.length):bV (l.take (i + 1))=uL l[i] (bV (l.take i)):=by
 unfold bV;rw [a₃ hi,List.reverse_append];rfl
theorem tI (l:List fU):(bV l).length=l.length:=(qm l).length_eq
theorem fD: ∀(l:List fU),bg (l.map bU) 41=true
 | [] =>rfl
 | _ :: _=>rfl
theorem MI (l:List fU) (hl:l.length < 1000000):aT Tryz.prog G 259 [.sl l.length (l.map bU)] [] 0 (.sl l.length ((bV l).map bU)) [] 0:=by
  rw [show (.sl l.length ((bV l).map bU):MV)= .sl (bV l).length ((bV l).map bU) by rw [tI]];refine dK seat Tryz.func259 63 ?_;refine aa ?_;refine av (Nat×List fU) (fun x=> [(9, .int .i64 x.1),(8, .int .i64 l.length),(7, .sl l.length (l.map bU)),(3, .sl x.2.length (x.2.map bU))]) (fun _=> []) 0 (fun x=>x.1≤l.length∧x.2=bV (l.take x.1)) (fun x=>l.length - x.1) (0,[]) ⟨b₄ _,rfl⟩ (by dsimp only;exact(vm [] [])) ?_;rintro⟨i,out⟩ ⟨hi,sH⟩;try dsimp only
  dsimp only at hi sH;refine aa ?_;refine ad rfl ?_ ?_ <;> intro h
  · have gS:i < l.length:=by have:=ot h;omega
    have OE:out.length=i:=by rw [sH,tI];simp;omega
    have zR:=FN l gS;rw [← sH] at zR;have aH:=fu gS;generalize l[i] =e at *;have aH:=aj.mk aH;clear sH;refine aa ?_;refine rh Nat (fun k=> [(6, .int .i64 k),(5, .ptr 0 41 0 0 []),(9, .int .i64 i),(8, .int .i64 l.length),(7, .sl l.length (l.map bU)),(3, .sl out.length (out.map bU))]) (fun _=> [(0,⟨215,41,false,0,[bU e]⟩)]) (fun _=>1) (fun k=>k≤out.length∧uL e out=out.take k ++ e :: out.drop k) (fun JQ hj=>?_) (fun k hIk=>?_)
    · refine av Nat (fun k=> [(6, .int .i64 k),(5, .ptr 0 41 0 0 []),(9, .int .i64 i),(8, .int .i64 l.length),(7, .sl l.length (l.map bU)),(3, .sl out.length (out.map bU))]) (fun _=> [(0,⟨215,41,false,0,[bU e]⟩)]) 1 (fun k=>k≤out.length∧∀j (hj:j < out.length),j < k→yw out[j] e=true) (fun k=>out.length - k) 0 ⟨b₄ _,fun j hj h=>absurd h (Nat.not_lt_zero _)⟩ (vm [(0,_)] []) ?_;rintro k ⟨na,ib⟩;try dsimp only
      have step: ∀hk:k < out.length,yw out[k] e=true→(k + 1≤out.length∧∀j (hj:j < out.length),j < k + 1→yw out[j] e=true):=fun hk hb=>⟨om,fun j hj hjk=>by
        rcases Nat.lt_or_ge j k with h | h
        · exact ib j hj h
        · have:j=k:=om;subst this;exact hb⟩
      have done:(∀hk:k < out.length,yw out[k] e=false)→k≤out.length∧uL e out=out.take k ++ e :: out.drop k:=fun h=>⟨na,HD e out k na ib h⟩
      clear ib;refine aa ?_;refine al [ae 0,ae 1,ae 2,ae 3,ae 4,ae 5,ae 6,ae 7,ae 8,ae 9,ae 10,ae 11,ae 12,ae 13,ae 14,ae 15,ae 16,ae 17,ae 18,ae 19,ae 20,ae 21,ae 22,ae 23,ae 24,ae 25,ae 26,ae 27,ae 28,ae 29,ae 30,ae 31,ae 32,ae 33] ?_;refine aa ?_;refine ez rfl rfl ?_ rfl ?_ <;> intro h
      · have hk:k < out.length:=by have:=ot h;omega
        have dP:=fu hk;replace step:=step hk;replace done:=fun hb:yw out[k] e=false=>done fun _=>hb
        generalize out[k] =b at *;have dP:=aj.mk dP;obtain⟨b1,b2,b3,b4,b5,b6,b7,b8,b9,Zh⟩:=b;obtain⟨e1,e2,e3,e4,e5,e6,e7,e8,e9,Vj⟩:=e;unfold yw at step done;unfold bU at dP ⊢;dsimp only at step done dP ⊢;refine aa ?_;refine ez rfl rfl ?_ rfl ?_ <;> intro h
        · have OI:=oF h;refine aa ?_;refine ez rfl rfl ?_ rfl ?_ <;> intro h
          · have NY:b6=e6:=by simpa using h
            refine aa ?_;refine ad rfl ?_ ?_ <;> intro h
            · have Xk:=ot h;refine aa ?_;exact⟨k + 1,step (decide_eq_true om),by show out.length - (k + 1) < out.length - k;omega,(by dsimp only;exact(vm [(0,_)] []))⟩
            · have Xk:=oF h;refine aa ?_;exact hj.nrm k (done (decide_eq_false om)) (vm [(0,_)] [])
          · have NY:b6≠e6:=by simpa using h
            refine aa ?_;exact hj.nrm k (done (decide_eq_false om)) (vm [(0,_)] [])
        · have OI:b6 < e6:=by simpa using h
          refine aa ?_;exact⟨k + 1,step (decide_eq_true om),by show out.length - (k + 1) < out.length - k;omega,(by dsimp only;exact(vm [(0,_)] []))⟩
      · have hk: ¬ k < out.length:=by
          have: ¬ ((k:Int) < out.length):=by simpa using h
          omega
        refine aa ?_;exact hj.nrm k (done fun h=>absurd h hk) (vm [(0,_)] [])
    · obtain⟨na,hZ⟩:=hIk;generalize uL e out=Z at *;have Zc:Z.length=out.length + 1:=by rw [hZ];simp;omega
      replace hZ:out.take k ++ e :: out.drop k=Z:=hZ.symm;have NR:=aj.mk (kh (n:=out.length) (k:=k) (κ:= .i64) na);have Vp:=aj.mk (gH (n:=out.length) (k:=k) (κ:= .i64) na);have RX:=bH.mk (fD out);try dsimp only
      refine aa ?_;refine al [ae 0,ae 1,ae 2,ae 3,ae 4,ae 5,ae 6,ae 7,ae 8,ae 9,ae 10,ae 11,ae 12] ?_;refine aa ?_;refine bj rfl (by intro R hR;refine da hR ?_;refine a₁ ((by show bg (cutL _ 0 k) 41=true;rw [cut_take];exact fD _)) ?_;refine a₁ ⟨rfl,ai (by kernel_rfl) pf⟩ ?_;refine⟨(out.take k).map bU,sv (by show [] ++ cutL _ 0 k=_;rw [b₀,cut_take]),k,sv pf,?_⟩;exact hR) rfl ?_;refine aa ?_;refine bj rfl (by intro R hR;refine da hR ?_;(refine a₁ (a₅ _) ?_;refine⟨_,rfl,?_⟩;refine a₁ ⟨(by simp <;> omega),ai (by kernel_rfl) pf⟩ ?_;refine⟨(out.take k ++ [e]).map bU,sv (by rw [a₄];rfl),k+1,sv pf,?_⟩);exact hR) rfl ?_;refine aa ?_;refine bj rfl (by intro R hR;refine da hR ?_;refine a₁ ((by show bg (cutL _ k out.length) 41=true;rw [el];exact fD _)) ?_;refine a₁ ⟨(by simp <;> omega),ai (by kernel_rfl) pf⟩ ?_;refine⟨Z.map bU,sv (by rw [← hZ];show _ ++ cutL _ k out.length=_;rw [el];simp),Z.length,sv pf,?_⟩;exact hR) rfl ?_;refine aa ?_;exact⟨(i + 1,Z),⟨dm,zR.symm⟩,dm,(by dsimp only;exact(vm [] [(12,Z.length)]))⟩
  · have gS:i=l.length:=by have:=oF h;omega
    subst gS;rw [b₆] at sH;subst sH;refine aa ?_;refine au ?_;exact en [_]
theorem MJ (a b m:Int) (ha:0≤a∧a < 4611686018427387904) (hb:0≤b∧b < 9223372036854775808) (hm: -9223372036854775808≤m∧m < 9223372036854775808) :
  aE Tryz.prog G 260 [.int .i64 a, .int .i64 b, .int .i64 m] (.bool (decide (a≤m∧b≤m - a))):=by
 refine bA seat Tryz.func260 17 ?_
 refine aa ?_
 refine ag rfl rfl ?_ rfl ?_ <;> intro h
 ·have h1:a≤m:=by simpa using h
  refine aa ?_
  refine au ?_
  exact congrArg MV.bool (decide_eq_decide.2 om)
 ·have h1: ¬ a≤m:=by simpa using h
  refine aa ?_
  refine au ?_
  exact congrArg MV.bool (decide_eq_false om).symm
theorem QB {n k B b:Nat} {s t m:Int} {c:Int} (hc:c=(n:Int) - k) (hb:b≤B):Dr c ((B:Int) - b) s t m=decide ((n:Int) + 1 - k≤t∧((B:Int) - b≤m∧max s 0≤m - ((B:Int) - b))):=by
 subst hc;exact decide_eq_decide.2 om
theorem Wk (s:Int):(if (0:Int) > s then 0 else s)=max s 0:=by
 by_cases hs:(0:Int) > s
 ·rw [if_pos hs];omega
 ·rw [if_neg hs];omega
theorem Jq (l:List fU) (hl:l.length < 1000000) (eG: ∀e∈l,e.raw.length≤1000000) (p s t m:Int) (hs: -9223372036854775808≤s∧s < 9223372036854775808) (hm: -9223372036854775808≤m∧m < 9223372036854775808) :
  aT Tryz.prog G 223 [.sl l.length (l.map bU), .int .u64 p, .int .i64 s, .int .i64 t, .int .i64 m] [] 0 (TX (oo p s t m l)) [] 0:=by
 have hOp:=qm l
 have hOl:(bV l).length=l.length:=hOp.length_eq
 have hOb:bytesS (bV l)=bytesS l:=FL hOp
 have a0d:=MI (G:=G) l hl
 have hB:=zr l 1000000 eG l.length
 rw [b₆] at hB
 unfold TX
 refine dK seat Tryz.func223 68 ?_
 (have dh:=aX.mk (Wk s);refine aa ?_)
 refine dZ (Qy l hl eG) ?_
 refine jn (a0d) ?_
 refine av Nat (fun k=> [(27, .int .i64 k),(26, .int .i64 l.length),(25, .sl l.length ((bV l).map bU)),(14, .ms 0 32 0 k),(13, .int .i64 ((bytesS l:Int) - bytesS ((bV l).take k))),(12, .int .i64 ((l.length:Int) + 1 - k)),(4, .int .i64 m),(3, .int .i64 t),(2, .int .i64 (max s 0)),(1, .int .u64 p)]) (fun k=> [(0,⟨68,32,true,0,((bV l).take k).map fun e=>keyM e.key⟩)]) 1 (fun k=>k≤l.length∧QA p s t m (bV l) l.length (bytesS l) k) (fun k=>l.length - k) 0 ⟨b₄ _,?_⟩ ?_ ?_
 ·refine⟨(selG p s t m (bV l) l.length (bytesS l)).1,(selG p s t m (bV l) l.length (bytesS l)).2.1,(selG p s t m (bV l) l.length (bytesS l)).2.2,?_,rfl⟩
  simp [bytesS]
 ·try dsimp only
  rw [show ((bytesS l:Int) - bytesS ((bV l).take 0))=bytesS l by simp [bytesS]]
  exact(vm [] [])
 rintro k ⟨xW,hI⟩
 try dsimp only
 have VO:bytesS ((bV l).take k)≤bytesS l:=by
  have:=rV (bV l) k
  omega
 have VC:=QB (s:=s) (t:=t) (m:=m) (n:=l.length) (k:=k) rfl VO
 refine aa ?_
 refine ad rfl ?_ ?_ <;> intro h
 ·have aC:k < l.length:=by have:=ot h;omega
  have SD:k < (bV l).length:=om
  have jc:=kQ (bV l) SD
  have m0b:bytesS ((bV l).take (k + 1))≤bytesS l:=by
   have:=rV (bV l) (k + 1)
   omega
  (have dh:=aj.mk (MH hOl aC);refine aa ?_)
  refine ag rfl rfl ?_ rfl ?_ <;> intro h
  ·have h1:=ot h
   refine aa ?_
   refine dZ (MJ ((bytesS l:Int) - bytesS ((bV l).take k)) (max s 0) m om om hm) ?_
   refine ad rfl ?_ ?_ <;> intro h
   ·have h2:=ot h
    have fK:=VC.trans (decide_eq_true ⟨h1,h2⟩)
    have uQ:=rW hI (.inr ⟨SD,by rw [fK];rfl⟩)
    rw [show oo p s t m l=(((bV l).take k).map (·.key),true) by unfold oo;rw [uQ];simp only [fK]]
    refine aa ?_
    refine⟨[_,_],[],[(0,k)],rfl,rfl,?_,rfl,⟨?_,?_,trivial⟩,?_⟩
    ·exact⟨by show k≤(((bV l).take k).map fun e=>keyM e.key).length;simp;omega,trivial⟩
    ·exact .inr ⟨rfl,rfl,by simp;omega,by simp;omega,by rw [List.map_map,c₃];exact bc (fun e:fU=>keyM e.key) _⟩
    ·exact rv
    ·exact mm
   ·have h2:=oF h
    have fK:=VC.trans (decide_eq_false fun h=>h2 h.2)
    refine aa ?_
    refine ad rfl ?_ ?_ <;> intro h
    ·have hp:=ot h
     have uQ:=rW hI (.inr ⟨SD,by rw [fK];simpa using hp⟩)
     rw [show oo p s t m l=([],false) by unfold oo;rw [uQ];simp only [fK]]
     refine aa ?_
     exact en [_,_]
    ·have hp:=oF h
     have oI:=zw SD hI (by rw [fK];simpa using hp)
     refine aa ?_
     refine aO rfl rfl (by intro R hR;refine da hR ?_;(refine a₁ (a₅ _) ?_;refine⟨_,rfl,?_⟩;refine a₁ ⟨(by simp;omega),ai (by kernel_rfl) pf⟩ ?_;refine⟨((bV l).take (k + 1)).map fun e=>keyM e.key,sv (by rw [a₃ SD,a₄];rfl),k + 1,sv pf,?_⟩);exact hR) rfl ?_
     refine aa ?_
     exact⟨k + 1,⟨om,oI⟩,by show l.length - (k + 1) < l.length - k;omega,(by dsimp only;exact(vm [(0,_)] []))⟩
  ·have h1: ¬ ((l.length:Int) + 1 - k≤t):=by simpa using h
   have fK:=VC.trans (decide_eq_false fun h=>h1 h.1)
   refine aa ?_
   refine ad rfl ?_ ?_ <;> intro h
   ·have hp:=ot h
    have uQ:=rW hI (.inr ⟨SD,by rw [fK];simpa using hp⟩)
    rw [show oo p s t m l=([],false) by unfold oo;rw [uQ];simp only [fK]]
    refine aa ?_
    exact en [_,_]
   ·have hp:=oF h
    have oI:=zw SD hI (by rw [fK];simpa using hp)
    refine aa ?_
    refine aO rfl rfl (by intro R hR;refine da hR ?_;(refine a₁ (a₅ _) ?_;refine⟨_,rfl,?_⟩;refine a₁ ⟨(by simp;omega),ai (by kernel_rfl) pf⟩ ?_;refine⟨((bV l).take (k + 1)).map fun e=>keyM e.key,sv (by rw [a₃ SD,a₄];rfl),k + 1,sv pf,?_⟩);exact hR) rfl ?_
    refine aa ?_
    exact⟨k + 1,⟨om,oI⟩,by show l.length - (k + 1) < l.length - k;omega,(by dsimp only;exact(vm [(0,_)] []))⟩
 ·have aC:k=l.length:=by have:=oF h;omega
  have uQ:=rW hI (.inl om)
  refine aa ?_
  refine ag rfl rfl ?_ rfl ?_ <;> intro h
  ·have h1:=ot h
   refine aa ?_
   refine dZ (MJ ((bytesS l:Int) - bytesS ((bV l).take k)) (max s 0) m om om hm) ?_
   refine ad rfl ?_ ?_ <;> intro h
   ·have h2:=ot h
    have fK:=VC.trans (decide_eq_true ⟨h1,h2⟩)
    rw [show oo p s t m l=(((bV l).take k).map (·.key),true) by unfold oo;rw [uQ];simp only [fK]]
    refine aa ?_
    refine⟨[_,_],[],[(0,k)],rfl,rfl,?_,rfl,⟨?_,?_,trivial⟩,?_⟩
    ·exact⟨by show k≤(((bV l).take k).map fun e=>keyM e.key).length;simp;omega,trivial⟩
    ·exact .inr ⟨rfl,rfl,by simp;omega,by simp;omega,by rw [List.map_map,c₃];exact bc (fun e:fU=>keyM e.key) _⟩
    ·exact rv
    ·exact mm
   ·have h2:=oF h
    have fK:=VC.trans (decide_eq_false fun h=>h2 h.2)
    rw [show oo p s t m l=([],false) by unfold oo;rw [uQ];simp only [fK]]
    refine aa ?_
    exact en [_,_]
  ·have h1: ¬ ((l.length:Int) + 1 - k≤t):=by simpa using h
   have fK:=VC.trans (decide_eq_false fun h=>h1 h.1)
   rw [show oo p s t m l=([],false) by unfold oo;rw [uQ];simp only [fK]]
   refine aa ?_
   exact en [_,_]
theorem rX {l:List (List UInt8)} {k:Nat} (hk:k < l.length):bI (l.map keyM) l.length (k:Int)=some (keyM l[k]):=dB hk (by simp [hk])
def iV (k:List UInt8):List (List UInt8)→Nat→Int
 | [],_=> -1
 | a :: r,i=>if a=k then i else iV k r (i + 1)
theorem lK (k:List UInt8): ∀(l:List (List UInt8)) (i:Nat),iV k l i= -1∨∃j,iV k l i=((i + j:Nat):Int)∧j < l.length
 | [],_=> .inl rfl
 | a :: r,i=>by
  unfold iV
  split
  ·exact .inr ⟨0,rfl,sm⟩
  ·rcases lK k r (i + 1) with h | ⟨j,h,hj⟩
   ·exact .inl h
   ·exact .inr ⟨j + 1,by rw [h];omega,by simp;omega⟩
theorem A7 (l:List (List UInt8)) (key:List UInt8) (hl:l.length≤1000000) (gE:key.length=32) (hs: ∀x∈l,x.length=32):aE Tryz.prog G 255 [.sl l.length (l.map keyM),keyM key] (.int .i64 (iV key l 0)):=by
 generalize hr:iV key l 0=R;refine bA seat Tryz.func255 19 ?_;refine aa ?_;refine av Nat (fun k=> [(9, .int .i64 k),(8, .int .i64 l.length),(7, .sl l.length (l.map keyM)),(3, .ptr 0 32 0 0 [])]) (fun _=> [(0,⟨68,32,false,0,[keyM key]⟩)]) 1 (fun k=>k≤l.length∧iV key (l.drop k) k=R) (fun k=>l.length - k) 0 ⟨b₄ _,by rw [c₄];exact hr⟩ (vm [(0,_)] []) ?_;rintro k ⟨hk,hR⟩;try dsimp only
 refine aa ?_;refine ad rfl ?_ ?_ <;> intro h
 ·have aC:k < l.length:=by have:=ot h;omega
  have aH:=rX aC;have XB:=hs _ (b₂ aC);rw [a₈ aC,iV] at hR;generalize l[k] =a at *;have aH:=aj.mk aH;have q1:=aj.mk (hY (a:=a) (b:=key) (by rw [XB,gE]));have s1:=bH.mk (gW a key);by_cases he:a=key
  ·rw [if_pos he] at hR;rw [decide_eq_true he] at q1;subst hR;refine aa ?_;refine au ?_;rfl
  ·rw [if_neg he] at hR;rw [decide_eq_false he] at q1;refine aa ?_;exact⟨k + 1,⟨by show k + 1≤l.length;omega,hR⟩,by show l.length - (k + 1) < l.length - k;omega,(by dsimp only;exact(vm [(0,_)] []))⟩
 ·have aC:k=l.length:=by have:=oF h;omega
  subst aC;rw [c₁,iV] at hR;subst hR;refine aa ?_;refine au ?_;rfl
theorem Sq (l:List (List UInt8)) (key:List UInt8) (hl:l.length≤1000000) (gE:key.length=32) (hs: ∀x∈l,x.length=32):aE Tryz.prog G 218 [.sl l.length (l.map keyM),keyM key] (.bool (decide (0≤iV key l 0))):=by
 have c1:=A7 (G:=G) l key hl gE hs;generalize iV key l 0=p at *;refine bA seat Tryz.func218 9 ?_;refine aa ?_;refine dZ (c1) ?_;refine au ?_;rfl
def lL (k:List UInt8) (l:List (List UInt8)):List (List UInt8):=if iV k l 0 < 0 then l else l.take (iV k l 0).toNat ++ l.drop ((iV k l 0).toNat + 1)
def MK (k:List UInt8) (l:List (List UInt8)) (size:Int):List (List UInt8):=if (size:Int) < (l.length:Int) + 1 then(l ++ [k]).drop 1 else l ++ [k]
def pU (k:List UInt8) (l:List (List UInt8)) (size:Int):List (List UInt8):=if 0≤iV k l 0 then l.take (iV k l 0).toNat ++ l.drop ((iV k l 0).toNat + 1) ++ [k] else MK k l (max 0 (min size 1024))
def dS (l:List (List UInt8)):Prop:= ∀x∈l,x.length=32
theorem ML {k:List UInt8} {l:List (List UInt8)} (h:dS l):dS (lL k l)∧(lL k l).length≤l.length:=by
 unfold lL;split
 ·exact⟨h,a₅ _⟩
 ·refine⟨fun x hx=>(b₃.1 hx).elim (fun hx=>h x (b₇ hx)) (fun hx=>h x (b₁ hx)),?_⟩;rw [a₂,a₉,a₆];omega
theorem MM {k:List UInt8} {l:List (List UInt8)} {size:Int} (hk:k.length=32) (h:dS l):dS (pU k l size)∧(pU k l size).length≤max l.length 1024:=by
 unfold pU;split
 ·rename_i hp;rcases lK k l 0 with h0 | ⟨j,hj,eS⟩
  ·omega
  refine⟨fun x hx=>(b₃.1 hx).elim (fun hx=>(b₃.1 hx).elim (fun hx=>h x (b₇ hx)) (fun hx=>h x (b₁ hx))) (fun hx=>by rw [c₉.1 hx];exact hk),?_⟩;rw [a₂,a₂,a₉,a₆,b₅];omega
 ·unfold MK;have ha:dS (l ++ [k]):=fun x hx=>(b₃.1 hx).elim (h x) (fun hx=>by rw [c₉.1 hx];exact hk)
  split
  ·refine⟨fun x hx=>ha x (b₁ hx),?_⟩;rw [a₆,a₂,b₅];omega
  ·refine⟨ha,?_⟩;rw [a₂,b₅];omega
theorem ig: ∀(l:List (List UInt8)),bg (l.map keyM) 32=true
 | [] =>rfl
 | _ :: _=>rfl
theorem Jr (l:List fU) (j:Nat) (hj:j < l.length) (hl:l.length≤1000000):aT Tryz.prog G 262 [.sl l.length (l.map bU), .int .i64 j] [] 0 (.sl (l.take j ++ l.drop (j + 1)).length ((l.take j ++ l.drop (j + 1)).map bU)) [] 0:=by
 have hlen:(l.take j ++ l.drop (j + 1)).length=l.length - 1:=by rw [a₂,a₉,a₆];omega
 have NR:=aj.mk (kh (n:=l.length) (k:=j) (κ:= .i64) om);have Vp:=aj.mk (show dN l.length (some (.int .i64 ((j:Int) + 1))) none=some (j + 1,l.length) from gH (n:=l.length) (k:=j + 1) (κ:= .i64) om);have RX:=bH.mk (fD l);refine dK seat Tryz.func262 15 ?_;refine aa ?_;refine al [ae 0,ae 1,ae 2,ae 3,ae 4,ae 5,ae 6,ae 7,ae 8,ae 9,ae 10] ?_;refine aa ?_;refine bj rfl (by intro R hR;refine da hR ?_;refine a₁ ((by show bg (cutL _ 0 j) 41=true;rw [cut_take];exact fD _)) ?_;refine a₁ ⟨rfl,ai (by kernel_rfl) pf⟩ ?_;refine⟨(l.take j).map bU,sv (by show [] ++ cutL _ 0 j=_;rw [b₀,cut_take]),j,sv pf,?_⟩;exact hR) rfl ?_;refine aa ?_;refine bj rfl (by intro R hR;refine da hR ?_;refine a₁ ((by show bg (cutL _ (j + 1) l.length) 41=true;rw [el];exact fD _)) ?_;refine a₁ ⟨(by simp <;> omega),ai (by kernel_rfl) pf⟩ ?_;refine⟨(l.take j ++ l.drop (j + 1)).map bU,sv (by show _ ++ cutL _ (j + 1) l.length=_;rw [el,a₄]),(l.length - 1),sv pf,?_⟩;exact hR) rfl ?_;refine aa ?_;generalize l.take j ++ l.drop (j + 1)=Z at *;rw [← hlen];refine⟨[_],[],[(10,Z.length)],rfl,rfl,?_,rfl,⟨?_,trivial⟩,?_⟩
 ·exact⟨by show Z.length≤(Z.map bU).length;simp,trivial⟩
 ·exact .inr ⟨rfl,rfl,rfl,c₂ (a₇ _),bc bU Z⟩
 ·exact mm
theorem TY (l:List (List UInt8)) (key:List UInt8) (hl:l.length≤1000000) (gE:key.length=32) (hs:dS l):aT Tryz.prog G 261 [.sl l.length (l.map keyM),keyM key] [] 0 (.tup [.sl (lL key l).length ((lL key l).map keyM), .bool (decide (0≤iV key l 0))]) [] 0:=by
 have c1:=A7 (G:=G) l key hl gE hs;unfold lL;rcases lK key l 0 with h0 | ⟨j,hj,eS⟩
 ·rw [h0] at c1 ⊢;rw [if_pos om,decide_eq_false om];refine dK seat Tryz.func261 23 ?_;refine aa ?_;(iterate 4 ((all_goals(refine aa ?_));(all_goals(first | (refine ah rfl aA rfl (src (c1)) rfl rfl ?_) | ((first | refine ag rfl rfl ?_ rfl ?_ | refine ad rfl ?_ ?_);all_goals(intro h;(try simp only [pl] at h);(try (exfalso;omega)))) | skip))));all_goals(refine au ?_)
  exact en [_,_]
 ·rw [hj,a₇] at c1 ⊢;rw [if_neg om,decide_eq_true om,b₉];have hlen:(l.take j ++ l.drop (j + 1)).length=l.length - 1:=by rw [a₂,a₉,a₆];omega
  have NR:=aj.mk (kh (n:=l.length) (k:=j) (κ:= .i64) om);have Vp:=aj.mk (show dN l.length (some (.int .i64 ((j:Int) + 1))) none=some (j + 1,l.length) from gH (n:=l.length) (k:=j + 1) (κ:= .i64) om);have RX:=bH.mk (ig l);refine dK seat Tryz.func261 23 ?_;refine aa ?_;(iterate 3 ((all_goals(refine aa ?_));(all_goals(first | (refine ah rfl aA rfl (src (c1)) rfl rfl ?_) | ((first | refine ag rfl rfl ?_ rfl ?_ | refine ad rfl ?_ ?_);all_goals(intro h;(try simp only [pl] at h);(try (exfalso;omega)))) | skip))));refine aa ?_;refine al [ae 0,ae 1,ae 2,ae 3,ae 4,ae 5,ae 6,ae 7,ae 8,ae 9,ae 10,ae 11] ?_;refine aa ?_;refine bj rfl (by intro R hR;refine da hR ?_;refine a₁ ((by show bg (cutL _ 0 j) 32=true;rw [cut_take];exact ig _)) ?_;refine a₁ ⟨rfl,ai (by kernel_rfl) pf⟩ ?_;refine⟨(l.take j).map keyM,sv (by show [] ++ cutL _ 0 j=_;rw [b₀,cut_take]),j,sv pf,?_⟩;exact hR) rfl ?_;refine aa ?_;refine bj rfl (by intro R hR;refine da hR ?_;refine a₁ ((by show bg (cutL _ (j + 1) l.length) 32=true;rw [el];exact ig _)) ?_;refine a₁ ⟨(by simp <;> omega),ai (by kernel_rfl) pf⟩ ?_;refine⟨(l.take j ++ l.drop (j + 1)).map keyM,sv (by show _ ++ cutL _ (j + 1) l.length=_;rw [el,a₄]),(l.length - 1),sv pf,?_⟩;exact hR) rfl ?_;refine aa ?_;generalize l.take j ++ l.drop (j + 1)=Z at *;rw [← hlen];refine⟨[_,_],[],[(17,Z.length)],rfl,rfl,?_,rfl,⟨?_,?_,trivial⟩,?_⟩
  ·exact⟨by show Z.length≤(Z.map keyM).length;simp,trivial⟩
  ·exact .inr ⟨rfl,rfl,rfl,c₂ (a₇ _),bc keyM Z⟩
  ·exact rv
  ·exact mm
theorem TZ (l:List (List UInt8)) (size:Int) (key:List UInt8) (hl:l.length≤1000000) (gM:cQ size) (gE:key.length=32) (hs:dS l):aT Tryz.prog G 257 [.sl l.length (l.map keyM), .int .i64 size,keyM key] [] 0 (.tup [.sl (pU key l size).length ((pU key l size).map keyM), .bool (decide (iV key l 0 < 0))]) [] 0:=by
 have c1:=A7 (G:=G) l key hl gE hs;unfold pU;have OK:(if (if (1024:Int) < size then 1024 else size) > 0 then(if (1024:Int) < size then 1024 else size) else 0)=max 0 (min size 1024):=by (repeat' split) <;> omega
 generalize hM:max 0 (min size 1024)=M at *;rcases lK key l 0 with h0 | ⟨j,hj,eS⟩
 ·rw [h0] at c1 ⊢;rw [if_neg om,decide_eq_true om];unfold MK;have Yw:(l ++ [key]).length=l.length + 1:=sm;have NR:=aj.mk (show dN (l.length + 1) (some (.int .i64 (1:Int))) none=some (1,l.length + 1) from gH (n:=l.length + 1) (k:=1) (κ:= .i64) om);refine dK seat Tryz.func257 44 ?_;refine aa ?_;(iterate 3 ((all_goals(refine aa ?_));(all_goals(first | (refine ah rfl aA rfl (src (c1)) rfl rfl ?_) | ((first | refine ag rfl rfl ?_ rfl ?_ | refine ad rfl ?_ ?_);all_goals(intro h;(try simp only [pl] at h);(try (exfalso;omega)))) | skip))));refine aa ?_;refine al [ae 0,ae 1,ae 2,ae 3,ae 4,ae 5,ae 6] ?_;refine aa ?_;refine bj rfl (by intro R hR;refine da hR ?_;refine a₁ ((ig l)) ?_;refine a₁ ⟨rfl,ai (by kernel_rfl) pf⟩ ?_;refine⟨l.map keyM,sv (by show [] ++ l.map keyM=_;rw [b₀]),l.length,sv pf,?_⟩;exact hR) rfl ?_;refine aa ?_;refine bj rfl (by intro R hR;refine da hR ?_;(refine a₁ (a₅ _) ?_;refine⟨_,rfl,?_⟩;refine a₁ ⟨sm,ai (by kernel_rfl) pf⟩ ?_;refine⟨(l ++ [key]).map keyM,sv (by rw [a₄];rfl),l.length + 1,sv pf,?_⟩);exact hR) rfl ?_;refine aa ?_;by_cases hc:M < (l.length:Int) + 1
  ·rw [if_pos hc];refine ad rfl ?_ ?_ <;> intro h
   rotate_left
   ·exfalso;have h':=oF h;(repeat' split at h') <;> omega
   refine aa ?_;have BF:((l ++ [key]).drop 1).length=l.length:=by rw [a₆,Yw];omega
   rw [BF];refine⟨[_,_],[],[(17,l.length + 1)],rfl,rfl,?_,rfl,⟨?_,?_,trivial⟩,?_⟩
   ·exact⟨by show l.length + 1≤((l ++ [key]).map keyM).length;rw [c₃,Yw];exact a₅ _,trivial⟩
   ·refine .inr ⟨rfl,rfl,om,om,?_⟩
    show cutL ((l ++ [key]).map keyM) 1 (1 + l.length)=((l ++ [key]).drop 1).map keyM
    unfold cutL;rw [← List.map_drop];exact c₀ (by rw [c₃,BF];omega)
   ·exact rv
   ·exact mm
  ·rw [if_neg hc];refine ad rfl ?_ ?_ <;> intro h
   ·exfalso;have h':=ot h;(repeat' split at h') <;> omega
   refine aa ?_;generalize l ++ [key] =Z at *;rw [← Yw];refine⟨[_,_],[],[(17,Z.length)],rfl,rfl,?_,rfl,⟨?_,?_,trivial⟩,?_⟩
   ·exact⟨by show Z.length≤(Z.map keyM).length;simp,trivial⟩
   ·exact .inr ⟨rfl,rfl,rfl,c₂ (a₇ _),bc keyM Z⟩
   ·exact rv
   ·exact mm
 ·rw [hj,a₇] at c1 ⊢;rw [if_pos om,decide_eq_false om,b₉];have hlen:(l.take j ++ l.drop (j + 1) ++ [key]).length=l.length:=by rw [a₂,a₂,a₉,a₆,b₅];omega
  have NR:=aj.mk (kh (n:=l.length) (k:=j) (κ:= .i64) om);have Vp:=aj.mk (show dN l.length (some (.int .i64 ((j:Int) + 1))) none=some (j + 1,l.length) from gH (n:=l.length) (k:=j + 1) (κ:= .i64) om);have RX:=bH.mk (ig l);refine dK seat Tryz.func257 44 ?_;refine aa ?_;(iterate 3 ((all_goals(refine aa ?_));(all_goals(first | (refine ah rfl aA rfl (src (c1)) rfl rfl ?_) | ((first | refine ag rfl rfl ?_ rfl ?_ | refine ad rfl ?_ ?_);all_goals(intro h;(try simp only [pl] at h);(try (exfalso;omega)))) | skip))));refine aa ?_;refine al [ae 0,ae 1,ae 2,ae 3,ae 4,ae 5,ae 6,ae 7,ae 8,ae 9,ae 10,ae 11,ae 12,ae 13,ae 14] ?_;refine aa ?_;refine bj rfl (by intro R hR;refine da hR ?_;refine a₁ ((by show bg (cutL _ 0 j) 32=true;rw [cut_take];exact ig _)) ?_;refine a₁ ⟨rfl,ai (by kernel_rfl) pf⟩ ?_;refine⟨(l.take j).map keyM,sv (by show [] ++ cutL _ 0 j=_;rw [b₀,cut_take]),j,sv pf,?_⟩;exact hR) rfl ?_;refine aa ?_;refine bj rfl (by intro R hR;refine da hR ?_;refine a₁ ((by show bg (cutL _ (j + 1) l.length) 32=true;rw [el];exact ig _)) ?_;refine a₁ ⟨(by simp <;> omega),ai (by kernel_rfl) pf⟩ ?_;refine⟨(l.take j ++ l.drop (j + 1)).map keyM,sv (by show _ ++ cutL _ (j + 1) l.length=_;rw [el,a₄]),(l.length - 1),sv pf,?_⟩;exact hR) rfl ?_;refine aa ?_;refine bj rfl (by intro R hR;refine da hR ?_;(refine a₁ (a₅ _) ?_;refine⟨_,rfl,?_⟩;refine a₁ ⟨(by simp <;> omega),ai (by kernel_rfl) pf⟩ ?_;refine⟨(l.take j ++ l.drop (j + 1) ++ [key]).map keyM,sv (by rw [a₄ (l₁:=l.take j ++ l.drop (j + 1))];rfl),l.length,sv pf,?_⟩);exact hR) rfl ?_;refine aa ?_;generalize l.take j ++ l.drop (j + 1) ++ [key] =Z at *;rw [← hlen];refine⟨[_,_],[],[(24,Z.length)],rfl,rfl,?_,rfl,⟨?_,?_,trivial⟩,?_⟩
  ·exact⟨by show Z.length≤(Z.map keyM).length;simp,trivial⟩
  ·exact .inr ⟨rfl,rfl,rfl,c₂ (a₇ _),bc keyM Z⟩
  ·exact rv
  ·exact mm
structure Sr (B:Nat) (e:fU):Prop where
 key:e.key.length=32
 raw:e.raw.length≤4096
 sender:e.sender.length≤5000
 height:0≤e.height∧e.height < 4611686018427387904
 time:0≤e.time∧e.time < 4611686018427387904
 peers:e.peers.length≤B
 gas:0≤e.gas∧e.gas < 18446744073709551616
def Js (k:List UInt8) (l:List fU):Int:=iV k (l.map (·.key)) 0
theorem T0 (l:List fU) (key:List UInt8) (hl:l.length≤1000000) (gE:key.length=32) (hs: ∀e∈l,e.key.length=32):aE Tryz.prog G 217 [.sl l.length (l.map bU),keyM key] (.int .i64 (Js key l)):=by
 generalize hr:Js key l=R;unfold Js at hr;refine bA seat Tryz.func217 20 ?_;refine aa ?_;refine av Nat (fun k=> [(9, .int .i64 k),(8, .int .i64 l.length),(7, .sl l.length (l.map bU)),(3, .ptr 0 32 0 0 [])]) (fun _=> [(0,⟨68,32,false,0,[keyM key]⟩)]) 1 (fun k=>k≤l.length∧iV key ((l.drop k).map (·.key)) k=R) (fun k=>l.length - k) 0 ⟨b₄ _,by rw [c₄];exact hr⟩ (vm [(0,_)] []) ?_;rintro k ⟨hk,hR⟩;try dsimp only
 refine aa ?_;refine ad rfl ?_ ?_ <;> intro h
 ·have aC:k < l.length:=by have:=ot h;omega
  have aH:=fu aC;have XB:=hs _ (b₂ aC);rw [a₈ aC,List.map_cons,iV] at hR;generalize l[k] =a at *;have aH:=aj.mk aH;have q1:=aj.mk (hY (a:=a.key) (b:=key) (by rw [XB,gE]));have s1:=bH.mk (gW a.key key);by_cases he:a.key=key
  ·rw [if_pos he] at hR;rw [decide_eq_true he] at q1;subst hR;refine aa ?_;refine au ?_;rfl
  ·rw [if_neg he] at hR;rw [decide_eq_false he] at q1;refine aa ?_;exact⟨k + 1,⟨by show k + 1≤l.length;omega,hR⟩,by show l.length - (k + 1) < l.length - k;omega,(by dsimp only;exact(vm [(0,_)] []))⟩
 ·have aC:k=l.length:=by have:=oF h;omega
  subst aC;rw [c₁,List.map_nil,iV] at hR;subst hR;refine aa ?_;refine au ?_;rfl
theorem xi (k:List UInt8) (l:List fU):Js k l= -1∨∃j:Nat,Js k l=(j:Int)∧j < l.length:=by
 rcases lK k (l.map (·.key)) 0 with h | ⟨j,h,hj⟩
 ·exact .inl h
 ·exact .inr ⟨j,by unfold Js;rw [h,a₇],by simpa using hj⟩
def Ds (now sA uC:Int):Bool:=decide (0 < uC∧sA < now∧uC < now - sA)
theorem MN (now sA uC:Int) (h1:0≤now∧now < 4611686018427387904) (h2:0≤sA∧sA < 4611686018427387904) (h3:cQ uC):aE Tryz.prog G 276 [.int .i64 now, .int .i64 sA, .int .i64 uC] (.bool (Ds now sA uC)):=by
 unfold cQ at h3;generalize hr:Ds now sA uC=R;unfold Ds at hr;refine bA seat Tryz.func276 24 ?_;refine aa ?_;by_cases c1:0 < uC
 ·by_cases c2:sA < now
  ·(iterate 4 ((all_goals(refine aa ?_));(all_goals(first | ((first | refine ag rfl rfl ?_ rfl ?_ | refine ad rfl ?_ ?_);all_goals(intro h;(try simp only [pl] at h);(try (exfalso;omega)))) | skip))));all_goals(refine au ?_)
   all_goals(rw [← hr];exact congrArg MV.bool (decide_eq_decide.2 (by omega)))
  ·rw [decide_eq_false om] at hr;subst hr;(iterate 4 ((all_goals(refine aa ?_));(all_goals(first | ((first | refine ag rfl rfl ?_ rfl ?_ | refine ad rfl ?_ ?_);all_goals(intro h;(try simp only [pl] at h);(try (exfalso;omega)))) | skip))));all_goals(refine au ?_)
   all_goals(first | rfl | exact congrArg MV.bool (decide_eq_false (by omega)))
 ·rw [decide_eq_false om] at hr;subst hr;(iterate 4 ((all_goals(refine aa ?_));(all_goals(first | ((first | refine ag rfl rfl ?_ rfl ?_ | refine ad rfl ?_ ?_);all_goals(intro h;(try simp only [pl] at h);(try (exfalso;omega)))) | skip))));all_goals(refine au ?_)
  all_goals(first | rfl | exact congrArg MV.bool (decide_eq_false (by omega)))
structure kE where
 cfg:nf
 app:eM
 height:Int
 time:Int
 arr:Int
 ents:List fU
 cache:List (List UInt8)
abbrev il (s:kE):MV:= .st [cfM s.cfg,appM s.app, .int .i64 s.height, .int .i64 s.time, .int .i64 s.arr, .sl s.ents.length (s.ents.map bU), .sl s.cache.length (s.cache.map keyM)]
class Fx where
 P:nf→eh→eh→Bool→Nat→Prop
structure MO (F:Fx) (B:Nat) (s:kE):Prop where
 cfg:A6 s.cfg
 app:fB s.app
 height:0≤s.height∧s.height≤1000000000000
 time:0≤s.time∧s.time≤100 * B
 arr:0≤s.arr∧s.arr≤B
 ents:s.ents.length≤B
 entk: ∀e∈s.ents,Sr B e
 cache:s.cache.length≤1024
 ck:dS s.cache
 fx:F.P s.cfg s.app.com s.app.nxt s.app.opn s.app.price
abbrev eE [FX:Fx] (B:Nat) (s:kE):Prop:=MO FX B s
def tJ (s:kE) (k:List UInt8):kE:={ s with cache:=pU k s.cache s.cfg.cache }
def tK (s:kE) (k:List UInt8):kE:={ s with cache:=lL k s.cache }
def lM (s:kE) (k:List UInt8):kE:=if s.cfg.keep=true then s else tK s k
def jU (s:kE) (k:List UInt8):kE×Bool:=if Js k s.ents < 0 then(s,false) else({ s with ents:=s.ents.take (Js k s.ents).toNat ++ s.ents.drop ((Js k s.ents).toNat + 1) },true)
theorem zx [FX:Fx] {B:Nat} {s:kE} {k:List UInt8} (h:eE B s) (hk:k.length=32):eE B (tJ s k):=by
 have:=MM (size:=s.cfg.cache) hk h.ck;exact⟨h.cfg,h.app,h.height,h.time,h.arr,h.ents,h.entk,by have:=this.2;have:=h.cache;show(pU k s.cache s.cfg.cache).length≤_;omega,this.1,h.fx⟩
theorem pj [FX:Fx] {B:Nat} {s:kE} {k:List UInt8} (h:eE B s):eE B (tK s k):=by
 have:=ML (k:=k) h.ck;exact⟨h.cfg,h.app,h.height,h.time,h.arr,h.ents,h.entk,by have:=this.2;have:=h.cache;show(lL k s.cache).length≤_;omega,this.1,h.fx⟩
theorem oq [FX:Fx] {B:Nat} {s:kE} {k:List UInt8} (h:eE B s):eE B (lM s k):=by
 unfold lM;split
 ·exact h
 ·exact pj h
theorem mN [FX:Fx] {B:Nat} {s:kE} {k:List UInt8} (h:eE B s):eE B (jU s k).1:=by
 unfold jU;split
 ·exact h
 ·refine⟨h.cfg,h.app,h.height,h.time,h.arr,?_,fun e he=>?_,h.cache,h.ck,h.fx⟩
  ·have:=h.ents;dsimp only;rw [a₂,a₉,a₆];rcases xi k s.ents with h0 | ⟨j,hj,eS⟩
   ·omega
   ·rw [hj,b₉];omega
  ·exact(b₃.1 he).elim (fun he=>h.entk e (b₇ he)) (fun he=>h.entk e (b₁ he))
theorem Dt [FX:Fx] {B:Nat} (s:kE) (k:List UInt8) (h:eE B s) (hk:k.length=32):aE Tryz.prog G 220 [il s,keyM k] (il (tJ s k)):=by
 obtain⟨⟨f1,f2,f3,f4,f5,f6,keep,f8,f9,f10,f11,f12⟩,⟨⟨a1,a2⟩,⟨a3,a4⟩,⟨a5,a6⟩,a7,a8⟩,height,time,arr,ents,cache⟩:=s;have h1:cache.length≤1024:=h.cache;have h2:0≤f4∧f4≤1024:=h.cfg.cache;have c1:=TZ (G:=G) cache f4 k om (by unfold cQ;omega) hk h.ck
 show aE _ _ _ _ (il ⟨⟨f1,f2,f3,f4,f5,f6,keep,f8,f9,f10,f11,f12⟩,⟨⟨a1,a2⟩,⟨a3,a4⟩,⟨a5,a6⟩,a7,a8⟩,height,time,arr,ents,pU k cache f4⟩)
 generalize pU k cache f4=nc at *;clear h;dsimp only [il,cfM,appM,eo];try generalize a1.map aV=b1 at *
 try generalize a1.length=d1 at *
 try generalize a3.map aV=b3 at *
 try generalize a3.length=d3 at *
 try generalize a5.map aV=b5 at *
 try generalize a5.length=d5 at *
 refine bA seat Tryz.func220 17 ?_;refine aa ?_;refine jn (c1) ?_;(refine kO [_] rfl (by kernel_rfl) ?_;(refine au ?_);exact rfl)
theorem rY [FX:Fx] {B:Nat} (s:kE) (k:List UInt8) (h:eE B s) (hk:k.length=32):aE Tryz.prog G 224 [il s,keyM k] (il (tK s k)):=by
 obtain⟨⟨f1,f2,f3,f4,f5,f6,keep,f8,f9,f10,f11,f12⟩,⟨⟨a1,a2⟩,⟨a3,a4⟩,⟨a5,a6⟩,a7,a8⟩,height,time,arr,ents,cache⟩:=s;have h1:cache.length≤1024:=h.cache;have c1:=TY (G:=G) cache k om hk h.ck
 show aE _ _ _ _ (il ⟨⟨f1,f2,f3,f4,f5,f6,keep,f8,f9,f10,f11,f12⟩,⟨⟨a1,a2⟩,⟨a3,a4⟩,⟨a5,a6⟩,a7,a8⟩,height,time,arr,ents,lL k cache⟩)
 generalize lL k cache=nc at *;clear h;dsimp only [il,cfM,appM,eo];try generalize a1.map aV=b1 at *
 try generalize a1.length=d1 at *
 try generalize a3.map aV=b3 at *
 try generalize a3.length=d3 at *
 try generalize a5.map aV=b5 at *
 try generalize a5.length=d5 at *
 refine bA seat Tryz.func224 14 ?_;refine aa ?_;refine jn (c1) ?_;(refine kO [_] rfl (by kernel_rfl) ?_;(refine au ?_);exact rfl)
theorem qn [FX:Fx] {B:Nat} (s:kE) (k:List UInt8) (h:eE B s) (hk:k.length=32):aE Tryz.prog G 221 [il s,keyM k] (il (lM s k)):=by
 have c1:=rY (G:=G) s k h hk;obtain⟨⟨f1,f2,f3,f4,f5,f6,keep,f8,f9,f10,f11,f12⟩,⟨⟨a1,a2⟩,⟨a3,a4⟩,⟨a5,a6⟩,a7,a8⟩,height,time,arr,ents,cache⟩:=s;cases keep with
 | true=>
  show aE _ _ _ _ (il ⟨⟨f1,f2,f3,f4,f5,f6,true,f8,f9,f10,f11,f12⟩,⟨⟨a1,a2⟩,⟨a3,a4⟩,⟨a5,a6⟩,a7,a8⟩,height,time,arr,ents,cache⟩)
  clear c1 h;dsimp only [il,cfM,appM,eo];try generalize a1.map aV=b1 at *
  try generalize a1.length=d1 at *
  try generalize a3.map aV=b3 at *
  try generalize a3.length=d3 at *
  try generalize a5.map aV=b5 at *
  try generalize a5.length=d5 at *
  refine bA seat Tryz.func221 12 ?_;refine aa ?_;(refine kO [_] rfl (by kernel_rfl) ?_;(refine au ?_);exact rfl)
 | false=>
  show aE _ _ _ _ (il ⟨⟨f1,f2,f3,f4,f5,f6,false,f8,f9,f10,f11,f12⟩,⟨⟨a1,a2⟩,⟨a3,a4⟩,⟨a5,a6⟩,a7,a8⟩,height,time,arr,ents,lL k cache⟩)
  change aE _ _ _ _ (il ⟨⟨f1,f2,f3,f4,f5,f6,false,f8,f9,f10,f11,f12⟩,⟨⟨a1,a2⟩,⟨a3,a4⟩,⟨a5,a6⟩,a7,a8⟩,height,time,arr,ents,lL k cache⟩) at c1;generalize lL k cache=nc at *;clear h;dsimp only [il,cfM,appM,eo] at c1;dsimp only [il,cfM,appM,eo];try generalize a1.map aV=b1 at *
  try generalize a1.length=d1 at *
  try generalize a3.map aV=b3 at *
  try generalize a3.length=d3 at *
  try generalize a5.map aV=b5 at *
  try generalize a5.length=d5 at *
  refine bA seat Tryz.func221 12 ?_;refine aa ?_;refine dZ (c1) ?_;(refine kO [_] rfl (by kernel_rfl) ?_;(refine au ?_);exact rfl)
theorem po [FX:Fx] {B:Nat} (s:kE) (k:List UInt8) (h:eE B s) (hB:B≤100000) (hk:k.length=32):aE Tryz.prog G 225 [il s,keyM k] (.tup [il (jU s k).1, .bool (jU s k).2]):=by
 have Y4:=h.ents;have Y7:=h.entk;clear h;unfold jU;obtain⟨⟨f1,f2,f3,f4,f5,f6,keep,f8,f9,f10,f11,f12⟩,⟨⟨a1,a2⟩,⟨a3,a4⟩,⟨a5,a6⟩,a7,a8⟩,height,time,arr,ents,cache⟩:=s;change ents.length≤B at Y4;have c1:=T0 (G:=G) ents k om hk (fun e he=>(Y7 e he).key);clear Y7;dsimp only;rcases xi k ents with h0 | ⟨j,hj,eS⟩
 ·rw [h0] at c1 ⊢;rw [if_pos om];dsimp only [il,cfM,appM,eo];try generalize a1.map aV=b1 at *
  try generalize a1.length=d1 at *
  try generalize a3.map aV=b3 at *
  try generalize a3.length=d3 at *
  try generalize a5.map aV=b5 at *
  try generalize a5.length=d5 at *
  refine bA seat Tryz.func225 20 ?_;refine aa ?_;refine dZ (c1) ?_;(refine kO [_,_] rfl (by kernel_rfl) ?_;(refine au ?_);exact rfl)
 ·rw [hj] at c1 ⊢;rw [if_neg om,b₉];have c2:=Jr (G:=G) ents j eS om;generalize ents.take j ++ ents.drop (j + 1)=ne at *;dsimp only [il,cfM,appM,eo];try generalize a1.map aV=b1 at *
  try generalize a1.length=d1 at *
  try generalize a3.map aV=b3 at *
  try generalize a3.length=d3 at *
  try generalize a5.map aV=b5 at *
  try generalize a5.length=d5 at *
  refine bA seat Tryz.func225 20 ?_;refine aa ?_;refine dZ (c1) ?_;refine jn (c2) ?_;(refine kO [_,_] rfl (by kernel_rfl) ?_;(refine au ?_);exact rfl)
def rZ (n:Int):Bool:=decide (1≤n∧n≤15)
theorem Du (n:Int):aE Tryz.prog G 226 [.int .i64 n] (.bool (rZ n)):=by
 generalize hr:rZ n=R;unfold rZ at hr;refine bA seat Tryz.func226 9 ?_;refine aa ?_;refine ag rfl rfl ?_ rfl ?_ <;> intro h
 ·have k1:=ot h;refine aa ?_;refine au ?_;rw [← hr];exact congrArg MV.bool (decide_eq_decide.2 om)
 ·have k1:=oF h;refine aa ?_;refine au ?_;rw [← hr];exact congrArg MV.bool (decide_eq_false om).symm
def FO (s:kE) (gas:Nat):Bool:=decide (0≤s.cfg.blkG∧s.cfg.blkG < gas)
theorem HE [FX:Fx] {B:Nat} (s:kE) (gas:Nat) (h:eE B s):aE Tryz.prog G 222 [il s, .int .u64 gas] (.bool (FO s gas)):=by
 have hg:=h.cfg.blkG;clear h;generalize hr:FO s gas=R;obtain⟨⟨f1,f2,f3,f4,f5,f6,keep,f8,f9,f10,f11,f12⟩,⟨⟨a1,a2⟩,⟨a3,a4⟩,⟨a5,a6⟩,a7,a8⟩,height,time,arr,ents,cache⟩:=s;change decide (0≤f9∧f9 < gas)=R at hr;change -1≤f9∧f9≤1125899906842624 at hg;have hw:0≤f9→aX (IntKind.u64.wrap f9) f9:=fun h0=>aX.mk (bS _ om om)
 dsimp only [il,cfM,appM,eo];try generalize a1.map aV=b1 at *
 try generalize a1.length=d1 at *
 try generalize a3.map aV=b3 at *
 try generalize a3.length=d3 at *
 try generalize a5.map aV=b5 at *
 try generalize a5.length=d5 at *
 refine bA seat Tryz.func222 17 ?_;refine aa ?_;refine ag rfl rfl ?_ rfl ?_ <;> intro h
 ·have k1:=ot h;have hw:=hw k1;refine aa ?_;refine au ?_;rw [← hr];exact congrArg MV.bool (decide_eq_decide.2 om)
 ·have k1:=oF h;refine aa ?_;refine au ?_;rw [← hr];exact congrArg MV.bool (decide_eq_false om).symm
end
section
mutual
theorem MP: ∀{v:MV},IZ v=true→v.idFree=true
 | .int _ _,_=>rfl
 | .bool _,_=>rfl
 | .str _,_=>rfl
 | .nilp,_=>rfl
 | .arr ..,_=>rfl
 | .sl ..,_=>rfl
 | .st l,h=>lN (v:=l) h
 | .nils,h=>a₀ h
 | .nilf,h=>a₀ h
 | .nili,h=>a₀ h
 | .ptr ..,h=>a₀ h
 | .gp ..,h=>a₀ h
 | .ep ..,h=>a₀ h
 | .ms ..,h=>a₀ h
 | .fn ..,h=>a₀ h
 | .ifc ..,h=>a₀ h
 | .tup _,h=>a₀ h
 | .undef,h=>a₀ h
theorem lN: ∀{v:List MV},rz v=true→MV.idFrees v=true
 | [],_=>rfl
 | m :: l,h=>by
  unfold rz at h
  cases hm:IZ m with
  | false=>rw [hm] at h;exact a₀ h
  | true=>
   rw [hm] at h
   unfold MV.idFrees
   rw [MP hm,lN h]
   rfl
end
theorem xj: ∀{v:MV},v.idFree=true→ek v=true
 | .tup _,h=>a₀ h
 | .undef,_=>rfl
 | .int _ _,_=>rfl
 | .bool _,_=>rfl
 | .str _,_=>rfl
 | .nilp,_=>rfl
 | .arr ..,_=>rfl
 | .sl ..,_=>rfl
 | .st l,h=>h
 | .nils,_=>rfl
 | .nilf,_=>rfl
 | .nili,_=>rfl
 | .ptr ..,h=>a₀ h
 | .gp ..,h=>h
 | .ep ..,h=>h
 | .ms ..,h=>a₀ h
 | .fn ..,h=>h
 | .ifc ..,h=>h
theorem uw: ∀{v:List MV},MV.idFrees v=true→tj v=true
 | [],_=>rfl
 | m :: l,h=>by
  unfold MV.idFrees at h
  rw [c₆] at h
  unfold tj
  rw [xj h.1,uw h.2]
  rfl
theorem zy: ∀{vs:List MV},MV.idFrees vs=true→ek (jl vs)=true
 | [],_=>rfl
 | [v],h=>by
  have h2:(v.idFree && MV.idFrees [])=true:=h
  rw [c₆] at h2
  exact xj h2.1
 | a :: b :: l,h=>uw h
mutual
def ZM:MV→MV
 | .nils=> .sl 0 []
 | .st l=> .st (Dv l)
 | m=>m
def Dv:List MV→List MV
 | [] => []
 | m :: l=>ZM m :: Dv l
end
mutual
def T1:MV→Bool
 | .nils=>true
 | .st l=>Dw l
 | m=>IZ m
def Dw:List MV→Bool
 | [] =>true
 | m :: l=>bif T1 m then Dw l else false
end
mutual
theorem T2 {σ:Nat→Option Nat} {fz:Fz}: ∀{v:MV},T1 v=true→eZ σ fz (ZM v) v∧(ZM v).idFree=true
 | .nils,_=>⟨.inr ⟨rfl,rfl⟩,rfl⟩
 | .st l,h=>⟨.inr ⟨_,rfl,(vi (v:=l) h).1⟩,(vi (σ:=σ) (fz:=fz) (v:=l) h).2⟩
 | .int _ _,_=>⟨ic _ rfl,rfl⟩
 | .bool _,_=>⟨ic _ rfl,rfl⟩
 | .str _,_=>⟨ic _ rfl,rfl⟩
 | .nilp,_=>⟨ic _ rfl,rfl⟩
 | .arr ..,_=>⟨ic _ rfl,rfl⟩
 | .sl ..,_=>⟨ic _ rfl,rfl⟩
 | .nilf,h=>a₀ h
 | .nili,h=>a₀ h
 | .ptr ..,h=>a₀ h
 | .gp ..,h=>a₀ h
 | .ep ..,h=>a₀ h
 | .ms ..,h=>a₀ h
 | .fn ..,h=>a₀ h
 | .ifc ..,h=>a₀ h
 | .tup _,h=>a₀ h
 | .undef,h=>a₀ h
theorem vi {σ:Nat→Option Nat} {fz:Fz}: ∀{v:List MV},Dw v=true→eZ.relVs σ fz (Dv v) v∧MV.idFrees (Dv v)=true
 | [],_=>⟨trivial,rfl⟩
 | m :: l,h=>by
  unfold Dw at h
  cases hm:T1 m with
  | false=>rw [hm] at h;exact a₀ h
  | true=>
   rw [hm] at h
   have h1:=T2 (σ:=σ) (fz:=fz) hm
   have h2:=vi (σ:=σ) (fz:=fz) (v:=l) h
   refine⟨⟨h1.1,h2.1⟩,?_⟩
   unfold Dv MV.idFrees
   rw [h1.2,h2.2]
   rfl
end
section
variable {T:bD} {rs:List ResultVar} {M:VM} {E:VE} {n:Nat}
theorem ij {P:MV→Prop} (vs:List MV) (hP:P (jl vs)) (hc:rz vs=true) (h1:eJ T M E rs (fun v=>v=vs)):wk T 0 rs (fun r M n=>(P r∧ek r=true)∧M= [] ∧n=0) .ret E M n:=
 fL (fun v hv=>by subst hv;exact⟨jl v,[],0,⟨⟨hP,zy (lN hc)⟩,rfl,rfl⟩,v,[],[],rfl,rfl,trivial,rfl,bk v (lN hc),trivial⟩) h1
theorem bB {P:MV→Prop} (vs:List MV) (h1:eJ T M E rs (fun v=>v=vs)) (hc:Dw vs=true) (hP:P (jl (Dv vs))):wk T 0 rs (fun r M n=>(P r∧ek r=true)∧M= [] ∧n=0) .ret E M n:=
 fL (fun v hv=>by
  subst hv;have k:=vi (σ:=dw 0 []) (fz:=lU M []) hc;exact⟨jl (Dv v),[],0,⟨⟨hP,zy k.2⟩,rfl,rfl⟩,Dv v,[],[],rfl,rfl,trivial,rfl,k.1,trivial⟩) h1
theorem Ss {res:MV} (vs:List MV) (hR:jl vs=res) (hc:rz vs=true) (h1:eJ T M E rs (fun v=>v=vs)):Ld T 0 rs res [] 0 .ret E M n:=
 fL (fun v hv=>by subst hv;exact⟨v,[],[],hR,rfl,trivial,rfl,bk v (lN hc),trivial⟩) h1
end
section
variable {Pg:Program} {T:bD} {N:Nat} {ents:List FuncId} {G:GS} {ops:Array Oper} {d:Tmp} {ty:TypeId} {pos:String} {after:Array Edge} {g:Option (Nat×Bool)} {rest:List Oper} {K:VK} {E:VE} {M:VM} {n:Nat}
 {f:Operand} {args:Array Operand} {er:Array TypeId} {f0:FuncId} {vs:List MV} {res:MV}
theorem aK (hc:aT Pg G f0 vs [] 0 res [] 0) (hd:Nat.blt d N=true) (h2:ents.contains f0=true) (h1: ∀R:FuncId×List MV→Prop,R (f0,vs)→(eI E f args.toList).runP R) (hf:(ek res && MV.idFrees vs)=true)
  (h:ak Pg T N ents G ops rest K ((d,res) :: E) M n):aB Pg T N ents G ops ⟨some d, .call ⟨.value f,args,er⟩,ty,pos,after,g⟩ rest K E M n:=by
 rw [c₆] at hf
 exact uZ hd h1 h2 hc hf.1 (bk vs hf.2) h
theorem aP {P:MV→Prop} (hc:cY Pg G f0 vs P) (hd:Nat.blt d N=true) (h2:ents.contains f0=true) (h1: ∀R:FuncId×List MV→Prop,R (f0,vs)→(eI E f args.toList).runP R) (hf:MV.idFrees vs=true)
  (h: ∀r,P r→ak Pg T N ents G ops rest K ((d,r) :: E) M n):aB Pg T N ents G ops ⟨some d, .call ⟨.value f,args,er⟩,ty,pos,after,g⟩ rest K E M n:=
 L7 hd h1 h2 hc [] trivial (bk vs hf) h
variable {n0 n':Nat} {y:Code} {Q:Exit→VK}
theorem zz (E':VE) (M':VM) (n':Nat) (hm:iy n0 E' M' n' E M) (h:vC Pg T N ents G n0 y Q E' M' n'):ak Pg T N ents G ops [] (aY Pg T N ents G n0 y Q .normal) E M n:=Rs.re _ _ _ hm h
end
theorem Vu {p q:Prop} (h:q) (s:Ki q→p:=by intro hq;(repeat(first | ((with_reducible apply wK);(case hp=>exact rfl);(case hc=>exact rfl);(case hm=>exact rfl);(case hr=>exact rfl);(case hk=>kernel_rfl)) | ((with_reducible apply rq);(case hp=>exact rfl);(case hy=>exact rfl);(case hc=>exact rfl);(case hpe=>exact Nat.zero_le _);(case hm=>exact rfl);(case hs=>exact rfl);(case hk=>kernel_rfl)) | ((with_reducible apply CN);(case hx=>exact rfl);(case ht=>exact rfl);(case hk=>kernel_rfl)) | ((with_reducible apply ru);(case ht=>exact rfl);(case hz=>exact rfl);(case hk=>kernel_rfl)) | ((with_reducible apply y7);(case hb=>exact rfl);(case he=>exact la)) | ((with_reducible apply wD)) | ((with_reducible apply CI)) | ((with_reducible apply wz)) | ((with_reducible apply wL);(case ho=>exact rfl);(case hp=>exact rfl);(case hc=>exact rfl);(case hm=>exact rfl);(case hr=>exact rfl);(case hk=>kernel_rfl)) | ((with_reducible apply rr);(case ho=>exact rfl);(case hp=>exact rfl);(case hy=>exact rfl);(case hc=>exact rfl);(case hpe=>exact Nat.zero_le _);(case hm=>exact rfl);(case hs=>exact rfl);(case hk=>kernel_rfl)) | ((with_reducible apply y9);(case ho=>exact rfl);(case hb=>exact rfl);(case he=>exact la)) | ((with_reducible apply CJ);(case ho=>exact (show iA _ _=true by kernel_rfl))) | ((with_reducible apply tg);(case hb=>exact rfl);(case he=>exact la)) | ((with_reducible apply wB);(case hb=>exact rfl);(case he=>exact la)) | ((with_reducible apply wC);(case hs=>exact rfl);(case hv=>exact rfl);(case hb=>exact rfl);(case he=>exact la)) | ((with_reducible apply nH);(case hs=>exact rfl);(case hv=>exact rfl);(case hd=>exact rfl)) | ((with_reducible apply nI);(case hs=>exact rfl);(case hv=>exact rfl);(case hd=>exact rfl)) | ((with_reducible apply rn);(case hq=>exact rfl);(case hv=>exact rfl);(case he=>exact la);(case hd=>exact rfl)) | ((with_reducible apply tf);(case hq=>exact rfl);(case hv=>exact rfl);(case he=>exact la)) | ((with_reducible apply aO);(case hq=>exact rfl);(case hv=>exact rfl);(case he=>exact la);(case hd=>exact rfl)) | ((with_reducible apply wo)) | ((with_reducible apply wu)) | ((with_reducible apply nC)) | ((with_reducible apply ra);(case he=>exact rfl)) | ((with_reducible apply rb);(case he=>exact rfl)) | ((with_reducible apply qZ)) | ((with_reducible apply wq)) | ((with_reducible apply wt)) | ((with_reducible apply CF)) | ((with_reducible apply wx)) | ((with_reducible apply wy)) | ((with_reducible apply nD)) | ((with_reducible apply nE)) | ((with_reducible apply nF);(case hb=>exact rfl)) | ((with_reducible apply nG);(case hb=>exact rfl)) | ((with_reducible apply rk)) | ((with_reducible apply rl)) | ((with_reducible apply qY)) | (with_reducible refine ri (by assumption) ?_) | (with_reducible refine rj (by assumption) ?_) | ((with_reducible apply ti);(case ho=>exact rfl);(case hb=>exact rfl);(case he=>exact la)) | ((with_reducible apply wH);(case ho=>exact rfl);(case hs=>exact rfl);(case hv=>exact rfl);(case hb=>exact rfl);(case he=>exact la)) | ((with_reducible apply CL);(case ho=>exact rfl);(case hb=>exact rfl);(case he=>exact la)) | ((with_reducible apply wG)) | ((with_reducible apply mw);(case ho=>exact rfl)) | ((with_reducible apply nJ);(case hs=>exact rfl);(case hv=>exact rfl);(case hd=>exact rfl)) | ((with_reducible apply nK);(case hs=>exact rfl);(case hv=>exact rfl);(case hd=>exact rfl)) | ((with_reducible apply lE);(case hs=>exact rfl);(case hv=>exact rfl)) | ((with_reducible apply CK)) | ((with_reducible apply qh);(case hv=>exact rfl);(case he=>exact la);(case hd=>exact rfl)) | ((with_reducible apply oS);(case hv=>exact rfl);(case he=>exact la)) | ((with_reducible apply bj);(case hv=>exact rfl);(case he=>exact la);(case hd=>exact rfl)) | ((with_reducible apply lD);(case hs=>exact rfl);(case hv=>exact rfl)) | ((with_reducible apply CH))));exact hq.out):p:=s ⟨h⟩
end
section
variable {G:GS}
attribute [local irreducible] ak aB aD aJ aQ vC aY aw
structure RpS where
 code:Int
 key:List MV
 prio:Int
 ev:Nat×List MV
 exp:Nat×List MV
 inv:Nat×List MV
 dn:Nat×List MV
 fl:Nat×List MV
 tx:Nat×List MV
 height:Int
 dig:List MV
def St (r:RpS):MV:= .st [.int .i64 r.code, .arr 32 1 r.key, .int .u64 r.prio, .sl r.ev.1 r.ev.2, .sl r.exp.1 r.exp.2, .sl r.inv.1 r.inv.2, .sl r.dn.1 r.dn.2, .sl r.fl.1 r.fl.2, .sl r.tx.1 r.tx.2, .int .i64 r.height, .arr 32 1 r.dig]
theorem eE.mono [FX:Fx] {B B':Nat} {s:kE} (h:eE B s) (hb:B≤B'):eE B' s:=
 ⟨h.cfg,h.app,h.height,⟨h.time.1,by have:=h.time.2;omega⟩,⟨h.arr.1,by have:=h.arr.2;omega⟩,d₀ h.ents hb,fun e he=>let k:=h.entk e he;⟨k.key,k.raw,k.sender,k.height,k.time,d₀ k.peers hb,k.gas⟩,h.cache,h.ck,h.fx⟩
theorem FP: ∀(l:List Int),bg (l.map (MV.int .i64)) 1=true
 | [] =>rfl
 | _ :: _=>rfl
abbrev appZ:MV:= .st [lgZ,lgZ,lgZ, .bool false, .int .u64 0]
abbrev HF:MV:= .st [Wi,appZ, .int .i64 0, .int .i64 0, .int .i64 0, .nils, .nils]
theorem T3 [FX:Fx] {B:Nat} (s:kE) (i peer:Int) (hi:i < s.ents.length) (hs:eE B s) (hB:B≤100000):cY Tryz.prog G 219 [il s, .int .i64 i, .int .i64 peer] (fun r=> ∃s',r=il s'∧eE (B + 1) s'):=by
 have c1:=Du (G:=G) peer;have Y4:=hs.ents;unfold cY;refine seq' seat Tryz.func219 47 ?_;refine aa ?_;refine ag rfl rfl ?_ rfl ?_ <;> intro h
 ·have h0:0≤i:=by have:=oF h;omega
  obtain⟨k,rfl⟩: ∃k:Nat,i=k:=⟨i.toNat,om⟩
  have hk:k < s.ents.length:=om;have aH:=aj.mk (fu hk);have Bs:=hs.entk _ (b₂ hk);generalize Y7:s.ents[k] =e at *;have c2:=Dc (G:=G) e.peers peer (by have:=Bs.peers;omega);have jD:e.peers.length≤100000:=d₀ Bs.peers hB;have UQ:aj (cE (s.ents.map bU) (0 + k)) (bU e):=aj.mk (by rw [bZ,a₇];simp [hk,Y7]);generalize rZ peer=bp at *;generalize decide (peer∈e.peers)=bi at *;refine aa ?_;refine aK (src (c1)) rfl rfl aA (by kernel_rfl) ?_;refine aa ?_;refine ag rfl rfl ?_ rfl ?_ <;> intro h
  ·refine aa ?_;refine aK (src (c2)) rfl rfl aA (by kernel_rfl) ?_;refine aa ?_;refine ad rfl ?_ ?_ <;> intro h
   ·refine aa ?_;(refine ij [_] (⟨s,rfl,hs.mono om⟩) (by kernel_rfl) ?_;(refine au ?_);exact rfl)
   ·refine aa ?_;refine aO rfl rfl (by intro R hR;refine da hR ?_;refine a₁ ((fD _)) ?_;refine a₁ ⟨rfl,ai (by kernel_rfl) pf⟩ ?_;refine⟨s.ents.map bU,sv (by rfl),s.ents.length,sv pf,?_⟩;exact hR) rfl ?_;refine aa ?_;refine aO rfl rfl (by intro R hR;refine da hR ?_;refine a₁ ((FP _)) ?_;refine a₁ ⟨rfl,ai (by kernel_rfl) pf⟩ ?_;refine⟨e.peers.map (MV.int .i64),sv (by rfl),e.peers.length,sv pf,?_⟩;exact hR) rfl ?_;refine aa ?_;obtain⟨Z,hZ⟩: ∃Z,Z=e.peers ++ [peer] :=⟨_,rfl⟩
    have Zc:Z.length=e.peers.length + 1:=by rw [hZ];simp
    refine aO rfl rfl (by intro R hR;refine da hR ?_;(refine a₁ (a₅ _) ?_;refine⟨_,rfl,?_⟩;refine a₁ ⟨sm,ai (by kernel_rfl) pf⟩ ?_;refine⟨Z.map (MV.int .i64),sv (by rw [hZ];simp;rfl),Z.length,sv pf,?_⟩);exact hR) rfl ?_;iterate 2 (refine Sd ?_)
    refine qg ([(41, .sl Z.length (Z.map (MV.int .i64))),(43, .ptr 20 41 (0 + k) (0 + 40) ([] ++ [9])),(7, .ms 20 41 0 s.ents.length),(6, .ptr 1 25 0 0 []),(3, .ptr 0 25 0 0 [])]) ([(20,⟨215,41,true,0,s.ents.map bU⟩),(1,⟨75,25,false,0,[HF]⟩),(0,⟨75,25,false,0,[il s]⟩)]) [(33,Z.length)] mm rfl mm mm ?_;obtain⟨e1,e2,e3,e4,e5,e6,e7,e8,e9,Vj⟩:=e;have vk:aX (setL (s.ents.map bU) (0 + k) (bU ⟨e1,e2,e3,e4,e5,e6,e7,e8,e9,Z⟩)) ((s.ents.set k ⟨e1,e2,e3,e4,e5,e6,e7,e8,e9,Z⟩).map bU):=aX.mk (by rw [setL_eq,a₇,List.map_set]);have eG:eE (B + 1) { s with ents:=s.ents.set k ⟨e1,e2,e3,e4,e5,e6,e7,e8,e9,Z⟩ }:=by
     have hm:=hs.mono (B':=B + 1) om;refine⟨hm.cfg,hm.app,hm.height,hm.time,hm.arr,by dsimp only;rw [d₄];exact hm.ents,fun x hx=>?_,hm.cache,hm.ck,hm.fx⟩;rcases List.mem_or_eq_of_mem_set hx with hx | rfl
     ·exact hm.entk x hx
     ·exact⟨Bs.key,Bs.raw,Bs.sender,Bs.height,Bs.time,by have:=Bs.peers;dsimp only at *;omega,Bs.gas⟩
    have hlen:(s.ents.set k ⟨e1,e2,e3,e4,e5,e6,e7,e8,e9,Z⟩).length=s.ents.length:=d₄ ..;generalize s.ents.set k ⟨e1,e2,e3,e4,e5,e6,e7,e8,e9,Z⟩=W at *;iterate 3 (refine Sd ?_)
    refine qg ([(7, .ms 20 41 0 s.ents.length),(6, .ptr 1 25 0 0 []),(3, .ptr 0 25 0 0 [])]) ([(20,⟨215,41,true,0,setL (s.ents.map bU) (0 + k) (bU ⟨e1,e2,e3,e4,e5,e6,e7,e8,e9,Z⟩)⟩),(1,⟨75,25,false,0,[HF]⟩),(0,⟨75,25,false,0,[il s]⟩)]) [] trivial rfl mm mm ?_;rw [vk.out,← hlen];refine qg ([(7, .sl W.length (W.map bU)),(6, .ptr 1 25 0 0 []),(3, .ptr 0 25 0 0 [])]) ([(1,⟨75,25,false,0,[HF]⟩),(0,⟨75,25,false,0,[il s]⟩)]) [(20,W.length)] mm rfl mm mm ?_;refine aa ?_;(refine ij [_] (⟨{ s with ents:=W },rfl,eG⟩) (by kernel_rfl) ?_;(refine au ?_);exact rfl)
  ·refine aa ?_;(refine ij [_] (⟨s,rfl,hs.mono om⟩) (by kernel_rfl) ?_;(refine au ?_);exact rfl)
 ·refine aa ?_;(refine ij [_] (⟨s,rfl,hs.mono om⟩) (by kernel_rfl) ?_;(refine au ?_);exact rfl)
structure Kk where
 room:Int
 gas:Nat
 free:Bool
def Vv (r:Kk):MV:= .st [.int .i64 r.room, .int .u64 r.gas, .bool r.free]
def Jt (r:Kk):Prop:=(0≤r.room∧r.room < 9223372036854775808)∧bm r.gas
def xk (b g:Int):Kk×Bool:=if b < 0∨g < -1 then(⟨0,0,false⟩,false) else(⟨b,(max g 0).toNat,decide (g < 0)⟩,true)
theorem HG {b g:Int} (hb:cQ b) (hg:cQ g):Jt (xk b g).1:=by
 unfold cQ at hb hg;unfold xk;split
 ·exact⟨⟨sm,sm⟩,by simp [bm]⟩
 ·exact⟨dm,by unfold bm;dsimp only;omega⟩
theorem Dx (b g:Int) (hb:cQ b) (hg:cQ g):aE Tryz.prog G 263 [.int .i64 b, .int .i64 g] (.tup [Vv (xk b g).1, .bool (xk b g).2]):=by
 unfold cQ at hb hg;generalize hr:xk b g=R;unfold xk at hr;obtain⟨m,hm⟩: ∃m:Nat,(max g 0).toNat=m:=⟨_,rfl⟩
 have hmx:=aX.mk (show(if (0:Int) > g then 0 else g)=(m:Int) by rw [← hm];split <;> omega);have hmu:m < 18446744073709551616:=om;rw [hm] at hr;refine bA seat Tryz.func263 20 ?_;refine aa ?_;refine ag rfl rfl ?_ rfl ?_ <;> intro h
 ·have k1:=oF h;refine aa ?_;refine ad rfl ?_ ?_ <;> intro h
  ·have k2:=ot h;rw [if_pos om] at hr;subst hr;refine aa ?_;(refine kO [_,_] rfl (by kernel_rfl) ?_;(refine au ?_);exact rfl)
  ·have k2:=oF h;rw [if_neg om] at hr;subst hr;refine aa ?_;(refine kO [_,_] rfl (by kernel_rfl) ?_;(refine au ?_);exact rfl)
 ·have k1:=ot h;rw [if_pos om] at hr;subst hr;refine aa ?_;(refine kO [_,_] rfl (by kernel_rfl) ?_;(refine au ?_);exact rfl)
def ou (r:Kk) (n:Nat) (gas:Nat):Kk×Bool:=if r.room < jH n∨(r.free=false∧r.gas < gas) then(r,false) else(⟨r.room - jH n,if r.free=true then r.gas else r.gas - gas,r.free⟩,true)
theorem Dy {r:Kk} {n gas:Nat} (h:Jt r):Jt (ou r n gas).1:=by
 unfold ou;split
 ·exact h
 ·rename_i hx;obtain⟨h1,h2⟩:=h;unfold bm at h2;refine⟨dm,?_⟩;unfold bm;dsimp only;split <;> omega
theorem MQ (r:Kk) (e:fU) (gas:Nat) (XY:e.gas=gas) (hr:Jt r) (he:e.raw.length≤1000000) (hg:bm gas):aE Tryz.prog G 265 [Vv r,bU e] (.tup [Vv (ou r e.raw.length gas).1, .bool (ou r e.raw.length gas).2]):=by
 generalize hR:ou r e.raw.length gas=R;unfold ou at hR;obtain⟨room,Ym,free⟩:=r;obtain⟨SS,xY⟩:=hr;dsimp only at SS xY hR;unfold bm at xY hg;have c1:=AW (G:=G) e.raw.length om;have hw:jH e.raw.length≤2000000:=by have:=Db (n:=e.raw.length) (by unfold bm;omega);omega
 generalize jH e.raw.length=n at *;obtain⟨e1,e2,e3,e4,e5,e6,e7,e8,e9,Vj⟩:=e;dsimp only at XY;subst XY;dsimp only [Vv];refine bA seat Tryz.func265 43 ?_;refine aa ?_;refine aK (src (c1)) rfl rfl aA (by kernel_rfl) ?_;refine aa ?_;refine ag rfl rfl ?_ rfl ?_ <;> intro h
 ·have k1:=oF h;cases free with
  | true=>
   rw [if_neg (by simp;omega)] at hR;subst hR;refine aa ?_;(refine kO [_,_] rfl (by kernel_rfl) ?_;(refine au ?_);exact rfl)
  | false=>
   refine aa ?_;refine ad rfl ?_ ?_ <;> intro h
   ·have k2:=ot h;dsimp only at k2;rw [if_pos (.inr ⟨rfl,om⟩)] at hR;subst hR;refine aa ?_;(refine kO [_,_] rfl (by kernel_rfl) ?_;(refine au ?_);exact rfl)
   ·have k2:=oF h;dsimp only at k2;rw [if_neg (by simp;omega),if_neg sm] at hR;subst hR;have hmx:=aX.mk (show IntKind.u64.wrap ((Ym:Int) - gas)=((Ym - gas:Nat):Int) by rw [wu64];omega);refine aa ?_;(refine kO [_,_] rfl (by kernel_rfl) ?_;(refine au ?_);exact rfl)
 ·have k1:=ot h;rw [if_pos (.inl om)] at hR;subst hR;refine aa ?_;(refine kO [_,_] rfl (by kernel_rfl) ?_;(refine au ?_);exact rfl)
def FQ (b e:fU):Prop:=b.prio < e.prio∨(b.prio=e.prio∧e.order < b.order)
instance (b e:fU):Decidable (FQ b e):=by unfold FQ;exact inferInstance
def xl (e:fU) (out:List fU):Nat→Nat
 | 0=>0
 | k + 1=>match out[k]? with
  | none=>k + 1
  | some b=>if FQ b e then xl e out k else k + 1
theorem A8 (e:fU) (out:List fU): ∀k,xl e out k≤k
 | 0=>a₅ 0
 | k + 1=>by
  have:=A8 e out k
  unfold xl
  split
  ·exact a₅ _
  ·split <;> omega
theorem QC {e b:fU} {out:List fU} {k:Nat} (h:out[k]? =some b):xl e out (k + 1)=if FQ b e then xl e out k else k + 1:=by
 show(match out[k]? with | none=>k + 1 | some b=>if FQ b e then xl e out k else k + 1)=_
 rw [h]
def ux:List fU→List fU→List fU
 | [],out=>out
 | e :: r,out=>ux r (out.take (xl e out out.length) ++ e :: out.drop (xl e out out.length))
def uy (l:List fU):List fU:=ux l []
theorem zA: ∀(l out:List fU),(ux l out).length=l.length + out.length
 | [],out=>by simp [ux]
 | e :: r,out=>by
  have hk:=A8 e out out.length
  rw [ux,zA r,a₂,d₁,a₉,a₆,d₁]
  omega
theorem zB: ∀(l out:List fU),∀x∈ux l out,x∈l∨x∈out
 | [],out=>fun x hx=> .inr hx
 | e :: r,out=>fun x hx=>by
  rcases zB r _ x hx with h | h
  ·exact .inl (List.mem_cons_of_mem _ h)
  ·rcases b₃.1 h with h | h
   ·exact .inr (b₇ h)
   ·rcases List.mem_cons.1 h with rfl | h
    ·exact .inl (List.mem_cons_self ..)
    ·exact .inr (b₁ h)
theorem zC (l:List fU):(uy l).length=l.length:=by unfold uy;rw [zA];simp
theorem zD (l:List fU): ∀x∈uy l,x∈l:=fun x hx=>by
 rcases zB l [] x hx with h | h
 ·exact h
 ·exact absurd h sm
theorem MR (l:List fU) (hl:l.length < 1000000):aT Tryz.prog G 264 [.sl l.length (l.map bU)] [] 0 (.sl l.length ((uy l).map bU)) [] 0:=by
 have hlen:=zC l;generalize hR:uy l=R at *;unfold uy at hR;refine dK seat Tryz.func264 66 ?_;refine aa ?_;refine av (Nat×List fU) (fun x=> [(9, .int .i64 x.1),(8, .int .i64 l.length),(7, .sl l.length (l.map bU)),(3, .sl x.2.length (x.2.map bU))]) (fun _=> []) 0 (fun x=>x.1≤l.length∧x.2.length=x.1∧ux (l.drop x.1) x.2=R) (fun x=>l.length - x.1) (0,[]) ⟨b₄ _,rfl,by rw [c₄];exact hR⟩ (by dsimp only;exact(vm [] [])) ?_;rintro⟨i,out⟩ ⟨hi,OE,hI⟩;try dsimp only
 dsimp only at hi OE hI;refine aa ?_;refine ad rfl ?_ ?_ <;> intro h
 ·have gS:i < l.length:=by have:=ot h;omega
  have aH:=fu gS;rw [a₈ gS,ux] at hI;generalize l[i] =e at *;have aH:=aj.mk aH;have XL:=A8 e out out.length;obtain⟨K,hK⟩: ∃K,xl e out out.length=K:=⟨_,rfl⟩
  rw [hK] at XL hI;refine aa ?_;refine rh Nat (fun k=> [(6, .int .i64 k),(5, .ptr 0 41 0 0 []),(9, .int .i64 i),(8, .int .i64 l.length),(7, .sl l.length (l.map bU)),(3, .sl out.length (out.map bU))]) (fun _=> [(0,⟨215,41,false,0,[bU e]⟩)]) (fun _=>1) (fun k=>k=K) (fun JQ hj=>?_) (fun k na=>?_)
  ·refine av Nat (fun k=> [(6, .int .i64 k),(5, .ptr 0 41 0 0 []),(9, .int .i64 i),(8, .int .i64 l.length),(7, .sl l.length (l.map bU)),(3, .sl out.length (out.map bU))]) (fun _=> [(0,⟨215,41,false,0,[bU e]⟩)]) 1 (fun k=>k≤out.length∧xl e out k=K) (fun k=>k) out.length ⟨a₅ _,hK⟩ (vm [(0,_)] []) ?_;rintro k ⟨na,X3⟩;try dsimp only
   have xW:0 < k→∃b,out[k - 1]? =some b∧aj (bI (out.map bU) out.length ((k:Int) - 1)) (bU b):=fun Ks=>by
    have aC:k - 1 < out.length:=om;have:=fu aC;rw [show ((k - 1:Nat):Int)=(k:Int) - 1 by omega] at this;exact⟨_,List.getElem?_eq_getElem aC,aj.mk this⟩
   refine aa ?_;refine al [ae 0,ae 1,ae 2,ae 3,ae 4,ae 5,ae 6,ae 7,ae 8,ae 9,ae 10,ae 11,ae 12,ae 13,ae 14,ae 15,ae 16,ae 17,ae 18,ae 19,ae 20,ae 21,ae 22,ae 23,ae 24,ae 25,ae 26,ae 27,ae 28,ae 29,ae 30,ae 31,ae 32,ae 33,ae 34] ?_;refine aa ?_;refine ez rfl rfl ?_ rfl ?_ <;> intro h
   ·have Ks:0 < k:=by have:=ot h;omega
    obtain⟨b,Uu,dP⟩:=xW Ks;obtain⟨j,rfl⟩: ∃j,k=j + 1:=⟨k - 1,om⟩
    clear xW;rw [Nat.add_sub_cancel] at Uu;rw [QC Uu] at X3;have hT:(b.prio < e.prio∨(b.prio=e.prio∧e.order < b.order))→xl e out j=K:=fun hc=>(if_pos (c:=FQ b e) hc).symm.trans X3
    have hF: ¬ (b.prio < e.prio∨(b.prio=e.prio∧e.order < b.order))→j + 1=K:=fun hc=>(if_neg (c:=FQ b e) hc).symm.trans X3
    clear hK hI Uu X3;obtain⟨b1,b2,b3,b4,b5,b6,b7,b8,b9,Zh⟩:=b;obtain⟨e1,e2,e3,e4,e5,e6,e7,e8,e9,Vj⟩:=e;unfold bU at dP ⊢;dsimp only at dP hT hF ⊢;refine aa ?_;refine ez rfl rfl ?_ rfl ?_ <;> intro h
    ·have q1:=oF h;refine aa ?_;refine ez rfl rfl ?_ rfl ?_ <;> intro h
     ·have q2:=ot h;refine aa ?_;refine ad rfl ?_ ?_ <;> intro h
      ·have q3:=ot h;refine aa ?_;exact⟨j,⟨by show j≤out.length;omega,hT om⟩,by show j < j + 1;omega,(by dsimp only;exact(vm [(0,_)] []))⟩
      ·have q3:=oF h;refine aa ?_;exact hj.nrm (j + 1) (hF om) (vm [(0,_)] [])
     ·have q2:=oF h;refine aa ?_;exact hj.nrm (j + 1) (hF om) (vm [(0,_)] [])
    ·have q1:=ot h;refine aa ?_;exact⟨j,⟨by show j≤out.length;omega,hT om⟩,by show j < j + 1;omega,(by dsimp only;exact(vm [(0,_)] []))⟩
   ·have Ks:k=0:=by have:=oF h;omega
    refine aa ?_;exact hj.nrm k (by rw [← X3,Ks];rfl) (vm [(0,_)] [])
  ·subst na;obtain⟨Z,hZ⟩: ∃Z,out.take k ++ e :: out.drop k=Z:=⟨_,rfl⟩
   have na:k≤out.length:=XL;have Zc:Z.length=out.length + 1:=by rw [← hZ];simp;omega
   rw [hZ] at hI;have NR:=aj.mk (kh (n:=out.length) (k:=k) (κ:= .i64) na);have Vp:=aj.mk (gH (n:=out.length) (k:=k) (κ:= .i64) na);have RX:=bH.mk (fD out);clear hK;try dsimp only
   refine aa ?_;refine al [ae 0,ae 1,ae 2,ae 3,ae 4,ae 5,ae 6,ae 7,ae 8,ae 9,ae 10,ae 11,ae 12] ?_;refine aa ?_;refine bj rfl (by intro R hR;refine da hR ?_;refine a₁ ((by show bg (cutL _ 0 k) 41=true;rw [cut_take];exact fD _)) ?_;refine a₁ ⟨rfl,ai (by kernel_rfl) pf⟩ ?_;refine⟨(out.take k).map bU,sv (by show [] ++ cutL _ 0 k=_;rw [b₀,cut_take]),k,sv pf,?_⟩;exact hR) rfl ?_;refine aa ?_;refine bj rfl (by intro R hR;refine da hR ?_;(refine a₁ (a₅ _) ?_;refine⟨_,rfl,?_⟩;refine a₁ ⟨(by simp <;> omega),ai (by kernel_rfl) pf⟩ ?_;refine⟨(out.take k ++ [e]).map bU,sv (by rw [a₄];rfl),k+1,sv pf,?_⟩);exact hR) rfl ?_;refine aa ?_;refine bj rfl (by intro R hR;refine da hR ?_;refine a₁ ((by show bg (cutL _ k out.length) 41=true;rw [el];exact fD _)) ?_;refine a₁ ⟨(by simp <;> omega),ai (by kernel_rfl) pf⟩ ?_;refine⟨Z.map bU,sv (by rw [← hZ];show _ ++ cutL _ k out.length=_;rw [el];simp),Z.length,sv pf,?_⟩;exact hR) rfl ?_;refine aa ?_;exact⟨(i + 1,Z),⟨dm,dm,hI⟩,dm,(by dsimp only;exact(vm [] [(12,Z.length)]))⟩
 ·have gS:i=l.length:=by have:=oF h;omega
  subst gS;rw [c₁] at hI;have hI:out=R:=hI;subst hI;refine aa ?_;rw [← OE];(refine Ss [_] rfl (by kernel_rfl) ?_;(refine au ?_);exact rfl)
end
end Go.Proofs.YtohikcplmbkmeaaGreatDoor
