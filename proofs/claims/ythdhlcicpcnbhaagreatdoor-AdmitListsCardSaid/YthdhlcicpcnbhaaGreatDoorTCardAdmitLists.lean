/- AdmitLists. -/
import Derived.Test.YthdhlcicpcnbhaaGreatDoorW12
open Nat renaming le_of_ble_eq_true → a₀,zero_le → a₁
open And renaming intro → a₂
open List renaming mem_singleton → a₃,getElem_mem → a₄,replicate → a₅,getElem?_map → a₆,mem_map → a₇,getElem?_eq_getElem → a₈,map_append → a₉,mem_append → b₁
open Bool renaming and_eq_true → b₀
set_option maxRecDepth 20000
set_option maxHeartbeats 16000000
set_option linter.unusedVariables false
set_option linter.unusedSimpArgs false
namespace Go.Proofs.YthdhlcicpcnbhaaGreatDoor
open Go.RowKit
section
theorem take1 {cs:List Value} {n:Nat} {v:Value} (h:(cs.drop n).take 1= [v]):cs[n]? =some v:=by
 have h0:((cs.drop n).take 1)[0]? =some v:=by rw [h];rfl
 simpa [List.getElem?_take,List.getElem?_drop] using h0
theorem opa {P:Program} {t e:TypeId} {k:IntKind} {n:Nat} (hu:P.underlying t=some (.array n e)) (he:P.underlying e=some (.int k)) (hc:P.cellsOf t=n) (hce:P.cellsOf e=1) {H:Type} {enc:TypeId×Value→H} {W:World} {spare:Nat→Bool} {held:Bool} {fuel:Nat} {cs:List Value} {d:DataW H} {p:List MemPlace} (h:DataW.trod enc P W 0 spare held fuel t cs=some (d,p)): ∃x:List Int,cs=x.map (Value.int k)∧x.length=n∧∀y∈x,(Lit.int k y).wf=true:=by
  obtain⟨xs,m,_,_,hl,hlen,hi⟩:=DataW.trod_array hu h;have key: ∀i,i < n→∃y,cs[i]? =some (.int k y)∧(Lit.int k y).wf=true:=by
   intro i hin;have h1:=hi i hin;rw [hce] at h1;have hxi:xs[i]? =some (xs[i]'om):=a₈ om;rw [hxi] at h1;obtain⟨y,hy,_,hwf⟩:=DataW.trod_int he h1;rw [Nat.mul_one] at hy;exact⟨y,take1 hy,hwf⟩
  refine⟨cs.map fun | .int _ y=>y | _=>0,?_,?_,?_⟩
  ·apply List.ext_getElem?;intro i;rw [a₆,a₆];rcases Nat.lt_or_ge i n with hin | hin
   ·obtain⟨y,hy,_⟩:=key i hin;rw [hy];rfl
   ·rw [List.getElem?_eq_none om];rfl
  ·simp;omega
  ·intro y hy;obtain⟨v,hv,rfl⟩:=a₇.1 hy;obtain⟨i,hi',rfl⟩:=List.mem_iff_getElem.1 hv;obtain⟨y,hy,hwf⟩:=key i om;rw [a₈ hi'] at hy;injection hy with hy
   rw [hy];exact hwf
theorem Opn.arr {P:Program} {t e:TypeId} {k:IntKind} {n:Nat} (hu:P.underlying t=some (.array n e)) (he:P.underlying e=some (.int k)) (hc:P.cellsOf t=n) (hce:P.cellsOf e=1) :
  Opn P t n fun m=> ∃l:List Int,m= .arr n 1 (l.map (.int k))∧l.length=n∧∀y∈l,(Lit.int k y).wf=true:=by
 refine⟨hc,fun enc W spare held fuel cs d p h hw=>?_⟩
 obtain⟨x,rfl,hl,hwf⟩:=opa hu he hc hce h
 refine⟨by simpa using hl,_,⟨x,rfl,hl,hwf⟩,?_,vd d⟩
 have e0:x.map (Value.int k)=(x.map fun y=> [Value.int k y]).flatten:=by
  clear hl hwf h
  induction x with
  | nil=>rfl
  | cons a x ih=>rw [List.map_cons,List.map_cons,List.flatten_cons,← ih];rfl
 rw [e0]
 refine .arr _ (by simpa using hl) (by simpa using hl) (fun p hp=>by obtain⟨y,_,rfl⟩:=a₇.1 hp;rfl) fun j m p hm hp=>?_
 rw [a₆] at hm hp
 cases hj:x[j]? with
 | none=>rw [hj] at hm;cases hm
 | some y=>rw [hj] at hm hp;injection hm with hm;injection hp with hp;subst hm;subst hp;exact .int
end
section
attribute [local irreducible] aj aC aG aL aO vC aU au
end
section
variable {G:GS}
attribute [local irreducible] aj aC aG aL aO vC aU au
theorem mk_ok {n k:Nat} (hb:Nat.ble k 4096=true) (h:n≤1000000000):n * k≤281474976710656:=by
 have:=Nat.mul_le_mul h (a₀ hb);omega
theorem zp2: ∀(m:Nat),repM m (MV.int .u8 0)=u8s (a₅ m 0)
 | 0=>rfl
 | m + 1=>by rw [repM,zp2 m];rfl
abbrev zP1 (N:Nat) (r:MV) (N':Nat):Prop:=N'≤N + 40∧∃e:Ent,r=aA e∧e.key.length=32∧0≤e.order∧e.order < 9
abbrev enZ:MV:= .st [keyM (a₅ 32 0), .nils, .str [], .int .u64 0, .int .u64 0, .int .u64 0, .int .i64 0, .int .i64 0, .int .i64 0, .nils]
theorem zq9 (L:List Int) (N:Nat) (hN:N < 1000000000000000000):Cr G L 74 [numP] N (zP1 N):=by
 obtain⟨n,hn,cn⟩:=bk (G:=G) L N 9 om om om;unfold Cr;refine gC seat Tryz.func74 rfl rfl (a₀ rfl) (a₀ rfl) (N:=58) rfl rfl ?_;refine ae ?_;refine yc (cn) [(0,0)] ?_;refine ae ?_;refine aY rfl rfl (by intro R hR;refine dM hR ?_;refine a₂ (mk_ok (by kernel_rfl) om) ?_;exact hR) rfl ?_;rw [zp2];refine ae ?_;refine ar (Nat×List UInt8) (fun x=> [(12, .int .i64 x.1),(11, .int .i64 n),(3, .ms 2 1 0 n),(2, .ptr 1 41 0 0 []),(0,numP)]) (fun x=>dI L (N + 1 + x.1) ++ [(1,⟨64,41,false,0,[enZ]⟩),(2,⟨5,1,true,0,u8s x.2⟩)]) 3 (fun x=>x.1≤n∧x.2.length=n) (fun x=>n - x.1) (0,a₅ n 0) ⟨a₁ _,List.length_replicate⟩ (by dsimp only;exact(vm [(1,_),(2,_)] [])) ?_;clear cn;rintro⟨j,b⟩ ⟨hj,hb⟩;try dsimp only
 dsimp only at hj hb;refine ae ?_;refine ad rfl ?_ ?_ <;> intro h
 ·have hj':j < n:=by have:=ot h;omega
  obtain⟨x,hx,cx⟩:=bk (G:=G) L (N + 1 + j) 3 om om om;have f1:=al.mk (ca hj');have f2:=al.mk (show bH (u8s b) (0 + j)=some (.int .u8 (b[j]'om).toNat) by rw [bD,Nat.zero_add];simp [u8s,show j < b.length by omega]);have f4:=show setL (u8s b) j (.int .u8 (x:Int))=u8s (b.set j (UInt8.ofNat x)) by rw [show (x:Int)=((UInt8.ofNat x).toNat:Int) by rw [UInt8.toNat_ofNat'];omega,setL_eq];unfold u8s;rw [List.map_set]
  generalize b[j]'om=ob at *;have hsl:(b.set j (UInt8.ofNat x)).length=n:=by rw [List.length_set,hb]
  generalize b.set j (UInt8.ofNat x)=b2 at *;refine ae ?_;refine yc (cx) [(0,0)] ?_;refine ae ?_;refine⟨(j + 1,b2),⟨dm,hsl⟩,dm,?_⟩;dsimp only;rw [← f4];exact(vm [(1,_),(2,_)] [])
 ·subst hb;have cs:=Oj (G:=G) b om;have hk:=jV b;generalize bm b=key at *;obtain⟨M,hM,hMe⟩: ∃M,M≤N + 10∧M=N + 1 + j:=⟨_,om,rfl⟩
  rw [← hMe];clear hMe;have c0:=Ip (G:=G) L M om;obtain⟨x1,hx1,c1⟩:=bk (G:=G) L (M + 1) 4 om om om;obtain⟨x2,hx2,c2⟩:=bk (G:=G) L (M + 1 + 1) 50 om om om;obtain⟨x3,hx3,c3⟩:=bk (G:=G) L (M + 1 + 1 + 1) 5 om om om;obtain⟨x4,hx4,c4⟩:=bk (G:=G) L (M + 1 + 1 + 1 + 1) 9 om om om;obtain⟨x5,hx5,c5⟩:=bk (G:=G) L (M + 1 + 1 + 1 + 1 + 1) 30 om om om;obtain⟨x6,hx6,c6⟩:=bk (G:=G) L (M + 1 + 1 + 1 + 1 + 1 + 1) 9 om om om;obtain⟨x7,hx7,c7⟩:=bk (G:=G) L (M + 1 + 1 + 1 + 1 + 1 + 1 + 1) 3 om om om;generalize pg L M=nm at *;refine ae ?_;refine bV rfl (fun _ h=>h) rfl (aa (cs)) rfl [(2,b.length)] mm lm ?_;refine ae ?_;refine yc (c0) [(0,0)] ?_;refine ae ?_;refine yc (c1) [(0,0)] ?_;refine ae ?_;refine yc (c2) [(0,0)] ?_;refine ae ?_;refine yc (c3) [(0,0)] ?_;refine ae ?_;refine yc (c4) [(0,0)] ?_;refine ae ?_;refine yc (c5) [(0,0)] ?_;refine ae ?_;refine yc (c6) [(0,0)] ?_;refine Ea ?_;refine jq ([(5, .ptr 2 41 0 0 []),(2, .ptr 1 41 0 0 []),(0,numP)]) (dI L (M + 1 + 1 + 1 + 1 + 1 + 1 + 1) ++ [(1,⟨64,41,false,0,[enZ]⟩),(2,⟨64,41,false,0,[.st [keyM key, .sl b.length (u8s b), .str nm, .int .u64 x1, .int .u64 x2, .int .u64 x3, .int .i64 x4, .int .i64 x5, .int .i64 x6, .nils]]⟩)]) (3) (vm [(1,_),(2,_)] [(2,b.length)]) ?_;clear cs c0 c1 c2 c3 c4 c5 c6;obtain⟨M2,hM2,hMe⟩: ∃M2,M2≤N + 20∧M2=M + 1 + 1 + 1 + 1 + 1 + 1 + 1:=⟨_,om,rfl⟩
  rw [← hMe] at c7 ⊢;clear hMe;refine ae ?_;refine yc (c7) [(0,0)] ?_;refine ae ?_;refine ar (Nat×List Int) (fun x=> [(6, .int .i64 ((x7:Int) - x.1)),(5, .ptr 2 41 0 0 []),(2, .ptr 1 41 0 0 []),(0,numP)]) (fun x=>dI L (M2 + 1 + x.1) ++ [(1,⟨64,41,false,0,[enZ]⟩),(2,⟨64,41,false,0,[.st [keyM key, .sl b.length (u8s b), .str nm, .int .u64 x1, .int .u64 x2, .int .u64 x3, .int .i64 x4, .int .i64 x5, .int .i64 x6, .ms 3 1 0 x.2.length]]⟩),(3,⟨3,1,true,0,x.2.map (MV.int .i64)⟩)]) 4 (fun x=>x.1≤x7∧x.2.length=x.1) (fun x=>x7 - x.1) (0,[]) ⟨a₁ _,rfl⟩ (by dsimp only;exact(vm [(1,_),(2,_)] [])) ?_;rintro⟨i,ps⟩ ⟨hi,hps⟩;try dsimp only
  dsimp only at hi hps;refine ae ?_;refine ad rfl ?_ ?_ <;> intro h
  ·have hi':i < x7:=by have:=ot h;omega
   obtain⟨y,hy,cy⟩:=bk (G:=G) L (M2 + 1 + i) 4 om om om;obtain⟨P2,hP2⟩: ∃P2,P2=ps ++ [1 + (y:Int)] :=⟨_,rfl⟩
   have hPl:P2.length=ps.length + 1:=by rw [hP2];simp
   refine ae ?_;refine aw [ag 0,ag 1,ag 2,de 3,ag 4,ag 5,ag 6,ag 7,ag 8] ?_;refine ae ?_;refine bG rfl (fun _ h=>h) rfl [0] (cy) [(0,0)] [] ⟨rfl,trivial,rfl,lm,mm⟩ rfl rfl rfl rfl rfl ?_;refine ae ?_;refine bO rfl (by intro R hR;refine dM hR ?_;(refine a₂ (Nat.le_refl _) ?_;refine⟨_,rfl,?_⟩;refine a₂ ⟨sm,aE (by kernel_rfl) pf⟩ ?_;refine⟨P2.map (MV.int .i64),sv (by rw [hP2,a₉];rfl),P2.length,sv pf,?_⟩);exact hR) rfl ?_;refine ae ?_;exact⟨(i + 1,P2),⟨dm,dm⟩,dm,(by dsimp only;exact(vm [(1,_),(2,_),(3,_)] []))⟩
  ·refine ae ?_;refine av ?_;refine⟨_,_,_,⟨M2 + 1 + i,⟨⟨om,⟨key,b,nm,x1,x2,x3,x4,x5,x6,ps⟩,rfl,hk,dm,dm⟩,rfl⟩,rfl,rfl⟩,?_⟩;refine⟨[_],[],[(3,ps.length)],rfl,rfl,?_,rfl,⟨?_,trivial⟩,?_⟩
   ·exact⟨by show ps.length≤(ps.map (MV.int .i64)).length;simp,trivial⟩
   ·exact .inr ⟨_,rfl,lm⟩
   ·exact mm
def anyK (l:List Ent) (k:List UInt8):Bool:=l.any fun x=>decide (x.key=k)
theorem zq4 (out:List Ent) (k:List UInt8) {j:Nat} (hj:j < out.length):anyK (out.take (j + 1)) k=(anyK (out.take j) k || decide (out[j].key=k)):=by
 unfold anyK;rw [List.take_succ_eq_append_getElem hj,List.any_append];simp
theorem zq5 {l:List Ent} {k:List UInt8} (h:anyK l k=false):k ∉ l.map (·.key):=by
 intro hm;obtain⟨e,he,rfl⟩:=a₇.1 hm;have:=List.any_eq_false.1 h e he;simp at this
structure EnsW (l:List Ent):Prop where
 len:l.length≤100
 k32: ∀e∈l,e.key.length=32
 nd:(l.map (·.key)).Nodup
theorem zq1 (L:List Int) (N n:Nat) (hN:N < 100000000000000000) (hn:n≤20):Cr G L 37 [numP, .int .i64 n] N (fun r _=> ∃l:List Ent,EnsW l∧r= .sl l.length (l.map aA)):=by
 obtain⟨c,hc,cn⟩:=bk (G:=G) L N (n + 1) om om om;unfold Cr;refine gC seat Tryz.func37 rfl rfl (a₀ rfl) (a₀ rfl) (N:=52) rfl rfl ?_;refine ae ?_;refine yc (cn) [(0,0)] ?_;refine ae ?_;refine ar (Nat×Nat×List Ent) (fun x=> [(6, .int .i64 x.1),(5, .ms 1 41 0 x.2.2.length),(0,numP)]) (fun x=>dI L x.2.1 ++ [(1,⟨64,41,true,0,x.2.2.map aA⟩)]) 2 (fun x=>x.1≤20∧x.2.1 + 100 * x.1≤N + 1 + 2000∧EnsW x.2.2∧x.2.2.length + x.1≤20) (fun x=>x.1) (c,N + 1,[]) ⟨dm,dm,⟨a₁ _,nofun, .nil⟩,by simp;omega⟩ (by dsimp only;exact(vm [] [])) ?_;clear cn;rintro⟨i,K,out⟩ ⟨h1,h2,ho,h3⟩;try dsimp only
 dsimp only at h1 h2 ho h3;refine ae ?_;refine ad rfl ?_ ?_ <;> intro h
 ·have hi0:0 < i:=by have:=ot h;omega
  obtain⟨j,rfl⟩: ∃j,i=j + 1:=⟨i - 1,om⟩
  have hcast:((j + 1:Nat):Int) - 1=(j:Int):=om;refine ae ?_;refine ua rfl (fun _ h=>h) rfl (zq9 (G:=G) L K om) rfl 0 [] ⟨rfl,trivial,rfl,lm,mm⟩ rfl ?_;rintro _ K2 ⟨hK2,e,rfl,hk,ho1,ho2⟩;refine ae ?_;refine ar Nat (fun q=> [(23, .int .i64 q),(22, .int .i64 out.length),(21, .ms 1 41 0 out.length),(8, .bool (anyK (out.take q) e.key)),(7, .ptr 2 41 0 0 []),(6, .int .i64 ((j + 1:Nat):Int)),(5, .ms 1 41 0 out.length),(0,numP)]) (fun _=>dI L K2 ++ [(1,⟨64,41,true,0,out.map aA⟩),(2,⟨64,41,false,0,[aA e]⟩)]) 3 (fun q=>q≤out.length) (fun q=>out.length - q) 0 (a₁ _) (by dsimp only;exact(vm [(1,_),(2,_)] [])) ?_;intro q hq;try dsimp only
  refine ae ?_;refine ad rfl ?_ ?_ <;> intro h
  ·have hq':q < out.length:=by have:=ot h;omega
   have hbs:=zq4 out e.key hq';have hkq:=ho.k32 _ (a₄ hq');have f1:=al.mk (show bH (out.map aA) (0 + q)=some (aA out[q]) by rw [bD,Nat.zero_add];simp [hq']);have f2:=al.mk (ca hq');generalize out[q] =x at *;obtain⟨x1,x2,x3,x4,x5,x6,x7,x8,x9,x10⟩:=x;obtain⟨e1,e2,e3,e4,e5,e6,e7,e8,e9,e10⟩:=e;unfold aA at *;dsimp only at hbs hkq hk f1;have f3:=al.mk (qm (a:=x1) (b:=e1) (by rw [hkq,hk]));have f4:=bN.mk (iL x1 e1);generalize anyK (out.take q) e1=bb at *;cases bb with
   | true=>
    rw [Bool.true_or] at hbs;refine fP ?_;refine⟨q + 1,dm,dm,?_⟩;dsimp only;rw [hbs];exact(vm [(1,_),(2,_)] [])
   | false=>
    rw [Bool.false_or] at hbs;refine fP ?_;refine⟨q + 1,dm,dm,?_⟩;dsimp only;rw [hbs];exact(vm [(1,_),(2,_)] [])
  ·have hq9:q=out.length:=by have:=oF h;omega
   subst hq9;rw [List.take_length];obtain⟨e1,e2,e3,e4,e5,e6,e7,e8,e9,e10⟩:=e;dsimp only at hk ho1 ho2;cases ha:anyK out e1 with
   | true=>
    refine ae ?_;exact⟨(j,K2,out),⟨dm,dm,ho,dm⟩,dm,(by dsimp only;exact(vm [(1,_)] []))⟩
   | false=>
    have hnot:=zq5 ha;obtain⟨x,hx,cx⟩:=bk (G:=G) L K2 2 om om om;have hol:=ho.len;obtain⟨P,hP,hP0,hP1⟩: ∃P:Int,(out.length:Int) * (x:Int)=P∧0≤P∧P≤100:=by
     rcases(show x=0∨x=1 by omega) with rfl | rfl
     ·exact⟨_,rfl,sm,sm⟩
     ·exact⟨_,rfl,om,om⟩
    have em:=aT.mk (show IntKind.i64.wrap ((out.length:Int) * (x:Int))=P by rw [hP];exact dW _ om om);obtain⟨W,hW⟩: ∃W,W=out ++ [(⟨e1,e2,e3,e4,e5,e6,e7,e8,e9 + P,e10⟩:Ent)] :=⟨_,rfl⟩
    have hWl:W.length=out.length + 1:=by rw [hW];simp
    have hWo:EnsW W:=by
     refine⟨om,fun y hy=>?_,?_⟩
     ·rw [hW] at hy;rcases b₁.1 hy with hy | hy
      ·exact ho.k32 y hy
      ·rw [a₃.1 hy];exact hk
     ·rw [hW,a₉,List.map_singleton];refine List.nodup_append.2 ⟨ho.nd,sm,fun a ha b hb he=>?_⟩;rw [a₃.1 hb] at he;have he:a=e1:=he;exact hnot (he▸ha)
    unfold aA at *;dsimp only at *;refine ae ?_;refine aw [ag 0,ag 1,ag 2,ag 3,ag 4,de 5,ag 6,ag 7,ag 8,ag 9] ?_;refine ae ?_;refine bG rfl (fun _ h=>h) rfl [0] (cx) [(0,0)] [] ⟨rfl,trivial,rfl,lm,mm⟩ rfl rfl rfl rfl rfl ?_;refine ae ?_;refine aY rfl rfl (by intro R hR;refine dM hR ?_;(refine a₂ (Nat.le_refl _) ?_;refine⟨_,rfl,?_⟩;refine a₂ ⟨sm,aE (by kernel_rfl) pf⟩ ?_;refine⟨W.map aA,sv (by rw [hW,a₉];rfl),W.length,sv pf,?_⟩);exact hR) rfl ?_;refine ae ?_;exact⟨(j,K2 + 1,W),⟨dm,dm,hWo,dm⟩,dm,(by dsimp only;exact(vm [(1,_)] []))⟩
 ·refine ae ?_;refine av ?_;refine⟨_,_,_,⟨K,⟨⟨out,ho,rfl⟩,rfl⟩,rfl,rfl⟩,?_⟩;refine⟨[_],[],[(1,out.length)],rfl,rfl,?_,rfl,⟨?_,trivial⟩,?_⟩
  ·exact⟨by show out.length≤(out.map aA).length;simp,trivial⟩
  ·exact rv
  ·exact mm
end
section
attribute [local irreducible] aj aC aG aL aO vC aU au
theorem zp1: ∀(l:List (List UInt8)) (i j:Nat) (hj:j < l.length),l.Nodup→posK l[j] l i=((i + j:Nat):Int)
 | [],i,j,hj,_=>by simp at hj
 | a :: l,i,0,hj,_=>by rw [posK];simp
 | a :: l,i,j + 1,hj,hd=>by
  rw [List.nodup_cons] at hd
  have hne: ¬ a=(a :: l)[j + 1] :=fun e=>hd.1 (e▸a₄ (by simpa using hj))
  rw [posK,if_neg hne]
  have:=zp1 l (i + 1) j (by simpa using hj) hd.2
  rw [List.getElem_cons_succ,this]
  omega
theorem atE_at {l:List Ent} (hd:(l.map (·.key)).Nodup) {j:Nat} (hj:j < l.length):kY l[j].key l=(j:Int):=by
 have:=zp1 (l.map (·.key)) 0 j (by simpa using hj) hd;unfold kY;rw [List.getElem_map] at this;rw [this];omega
structure LstW (size:Int) (l:List (List UInt8)):Prop where
 k:eG l
 d:l.Nodup
 n:(l.length:Int)≤size
theorem zq2 {size:Int} {l:List (List UInt8)} {q:List UInt8} (h:LstW size l) (hz:0≤size∧size≤8) (hq:q.length=32):LstW size (ik q l size)∧dw q l size=ik q l size:=
 ⟨⟨(Il hq h.k).1,AH h.d,FR ⟨hz.1,om⟩ h.d h.n⟩,Gp h.d (by have:=h.n;omega)⟩
theorem zq3 {size:Int} {l:List (List UInt8)} {q:List UInt8} (h:LstW size l):LstW size (gu q l)∧cL q l=gu q l:=
 ⟨⟨(Ik h.k).1,AI h.d,by have:=(Ik (k:=q) h.k).2;have:=h.n;omega⟩,Gn h.d⟩
abbrev key1K (y:UInt8):List UInt8:=y :: a₅ 31 0
theorem u8_of {x:Nat} (h:x < 256): ∃y:UInt8,x=y.toNat:=⟨UInt8.ofNat x,by rw [UInt8.toNat_ofNat'];omega⟩
theorem zq7 (k:List Int) (hk:k.length≤140737488355328) (key:List UInt8) (hkey:key.length=32) (size:Int):aD Tryz.prog GU 10 [bM k,keyM key, .int .i64 size] (.bool true):=by
 have cl:=yJ k hk;by_cases h1:160 < k.length
 ·rw [decide_eq_true h1] at cl;unfold bM at *;refine aZ seat Tryz.func10 99 ?_;refine ae ?_;refine bV rfl (fun _ h=>h) rfl (aa (cl)) rfl [(3,1)] mm lm ?_;refine ae ?_;refine cC (known_m) ?_;refine av ?_;rfl
 rw [decide_eq_false h1] at cl;have cf:=Iq (G:=GU) k;have cp:=La (G:=GU) size 9 om om;have hz:0≤size % 9∧size % 9≤8:=om;generalize size % 9=z at *;unfold bM at *;refine aZ seat Tryz.func10 99 ?_;refine ae ?_;refine bV rfl (fun _ h=>h) rfl (aa (cl)) rfl [(3,1)] mm lm ?_;refine ae ?_;refine yc (cf) [] ?_;refine ae ?_;refine cC (cp) ?_;refine ar (Nat×List (List UInt8)) (fun x=> [(8, .sl x.2.length (x.2.map keyM)),(7,numP),(2, .int .i64 z),(0, .sl k.length (k.map (MV.int .i64))),(4, .ptr 1 32 0 0 [])]) (fun x=>dI k x.1 ++ [(1,⟨55,32,false,0,[keyM key]⟩)]) 2 (fun x=>x.1≤1000∧LstW z x.2) (fun x=>k.length - x.1) (0,[]) ⟨a₁ _,nofun, .nil,by dsimp only;simp;omega⟩ (by dsimp only;exact(vm [(0,_),(1,_)] [])) ?_;clear cl cp;rintro⟨N,l⟩ ⟨hN,hl⟩;try dsimp only
 dsimp only at hN hl;refine ae ?_;refine ad rfl ?_ ?_ <;> intro h
 ·have hNk:N < k.length:=by have:=ot h;omega
  obtain⟨x,hx,cx⟩:=bk (G:=GU) k N 12 om om om;obtain⟨y,rfl⟩:=u8_of (show x < 256 by omega);obtain⟨w1,w2⟩:=zq2 (q:=key1K y) hl hz rfl;have hln:=hl.n;have c1:=MZ (G:=GU) l z (key1K y) om (by unfold Aw;omega) rfl hl.k;have c2:=yB (G:=GU) l z (key1K y) om rfl hl.k;rw [w2] at c2;generalize ik (key1K y) l z=l1 at *;have hl1:=w1.n;have c3:=jh (G:=GU) l1 om;obtain⟨x2,hx2,cx2⟩:=bk (G:=GU) k (N + 1) 5 om om om;refine ae ?_;refine yc (cx) [(0,0)] ?_;refine ae ?_;refine jS (c1) ?_;refine jS (c2) ?_;refine cC (c3) ?_;refine yc (cx2) [(0,0)] ?_;refine ae ?_;refine ad rfl ?_ ?_ <;> intro h
  ·obtain⟨x3,hx3,cx3⟩:=bk (G:=GU) k (N + 1 + 1) 12 om om om;obtain⟨y3,rfl⟩:=u8_of (show x3 < 256 by omega);obtain⟨v1,v2⟩:=zq3 (q:=key1K y3) w1;have d1:=MY (G:=GU) l1 (key1K y3) om rfl w1.k;have d2:=Er (G:=GU) l1 (key1K y3) om rfl w1.k;rw [v2] at d2;generalize gu (key1K y3) l1=l2 at *;have hl2:=v1.n;have d3:=jh (G:=GU) l2 om;refine ae ?_;refine yc (cx3) [(0,0)] ?_;refine ae ?_;refine jS (d1) ?_;refine jS (d2) ?_;refine cC (d3) ?_;exact⟨(N + 1 + 1 + 1,l2),⟨dm,v1⟩,dm,(by dsimp only;exact(vm [(0,_),(1,_)] []))⟩
  ·refine ae ?_;exact⟨(N + 1 + 1,l1),⟨dm,w1⟩,dm,(by dsimp only;exact(vm [(0,_),(1,_)] []))⟩
 ·refine ae ?_;refine yc (cf) [] ?_;refine ae ?_;refine ua rfl (fun _ h=>h) rfl (zq1 (G:=GU) k 0 6 om om) rfl 10 [] ⟨rfl,trivial,rfl,lm,mm⟩ rfl ?_;rintro _ K2 ⟨es,he,rfl⟩;refine Ea ?_;refine jq ([(12, .ptr 0 25 0 0 []),(4, .ptr 1 32 0 0 [])]) ([(0,⟨42,25,false,0,[.st [Le,appZ, .int .i64 0, .int .i64 0, .int .i64 0, .sl es.length (es.map aA), .nils]]⟩),(1,⟨55,32,false,0,[keyM key]⟩)]) (2) (vm [(0,_),(1,_)] []) ?_;have hel:=he.len;have hp:=fun q (hq:q.length=32)=>uM (G:=GU) ⟨cfE0,app0,0,0,0,es,[]⟩ q dm hq he.k32
  have hrel: ∀{σ:Nat→Option Nat} {fz:Fz},cN σ fz (cO ⟨cfE0,app0,0,0,0,es,[]⟩) (.st [Le,appZ, .int .i64 0, .int .i64 0, .int .i64 0, .sl es.length (es.map aA), .nils]):=fun {σ fz}=>
   have lg:cN σ fz (lgM lg0) (.st [.nils, .int .u64 0]):= .inr ⟨_,rfl, .inr ⟨rfl,rfl⟩,⟨rfl,rfl⟩,trivial⟩
   .inr ⟨_,rfl, .inl ⟨rfl,rfl⟩, .inr ⟨_,rfl,lg,lg,lg,⟨rfl,rfl⟩,⟨rfl,rfl⟩,trivial⟩,⟨rfl,rfl⟩,⟨rfl,rfl⟩,⟨rfl,rfl⟩, .inl rfl, .inr ⟨rfl,rfl⟩,trivial⟩
  refine ae ?_;refine ar Nat (fun i=> [(76, .int .i64 i),(75, .int .i64 es.length),(74, .sl es.length (es.map aA)),(12, .ptr 0 25 0 0 []),(4, .ptr 1 32 0 0 [])]) (fun _=> [(0,⟨42,25,false,0,[.st [Le,appZ, .int .i64 0, .int .i64 0, .int .i64 0, .sl es.length (es.map aA), .nils]]⟩),(1,⟨55,32,false,0,[keyM key]⟩)]) 2 (fun i=>i≤es.length) (fun i=>es.length - i) 0 (a₁ _) (vm [(0,_),(1,_)] []) ?_;intro i hi;try dsimp only
  refine ae ?_;refine ad rfl ?_ ?_ <;> intro h
  ·have hi':i < es.length:=by have:=ot h;omega
   have hel2:=al.mk (eF hi');have d1:=hp es[i].key (he.k32 _ (a₄ hi'));dsimp only at d1;rw [atE_at he.nd hi'] at d1;generalize es[i] =e at *;obtain⟨e1,e2,e3,e4,e5,e6,e7,e8,e9,e10⟩:=e;unfold aA at hel2;dsimp only at hel2 d1;refine ae ?_;refine cC (d1) (hm:=by exact⟨hrel,lm⟩) ?_;refine ad rfl ?_ ?_ <;> intro h
   ·exact absurd h sm
   refine ae ?_;exact⟨i + 1,dm,dm,(by dsimp only;exact(vm [(0,_),(1,_)] []))⟩
  ·have _h:=h;have d1:=hp key hkey;have d2:=OD (G:=GU) es key om hkey he.k32;dsimp only at d1;generalize kY key es=zz at *;refine ae ?_;refine aw [ag 0,ag 1,de 2,ag 3,ag 4,ag 5,de 6,ag 7,ag 8,de 9,ag 10,ag 11] ?_;refine ae ?_;refine dk (d1) (hm:=by exact⟨hrel,lm⟩) ?_;refine dk (d2) ?_;refine gO rfl rfl ?_ rfl ?_ <;> intro h
   rotate_left
   ·exact absurd h sm
   refine ae ?_;refine dk (known_m) ?_;refine av ?_;rfl
end
section
open Go.ChangeShapes Go.WideShapes Go.ChangeAt Go.RowKit
theorem zp3: ∀(l:List Int),(∀y∈l,(Lit.int .u8 y).wf=true)→∃bs:List UInt8,l.map (MV.int .u8)=u8s bs∧bs.length=l.length
 | [],_=>⟨[],rfl,rfl⟩
 | y :: l,h=>by
  obtain⟨bs,h1,h2⟩:=zp3 l fun z hz=>h z (by simp [hz])
  have hy:=h y sm
  have hy:0≤y∧y < 256:=by
   simp [Lit.wf,IntKind.min,IntKind.max,IntKind.signed,IntKind.bits] at hy
   omega
  refine⟨UInt8.ofNat y.toNat :: bs,?_,by simp [h2]⟩
  show MV.int .u8 y :: l.map (MV.int .u8)=MV.int .u8 ((UInt8.ofNat y.toNat).toNat:Int) :: u8s bs
  rw [h1,UInt8.toNat_ofNat']
  congr 2
  omega
def okKey (m:MV):Prop:= ∃l:List Int,m= .arr 32 1 (l.map (.int .u8))∧l.length=32∧∀y∈l,(Lit.int .u8 y).wf=true
theorem opn_key:Opn Tryz.prog 55 32 okKey:=Opn.arr Tryz.underlying55 Tryz.underlying5 (by kernel_rfl) (by kernel_rfl)
theorem zq8 {m:MV} (h:okKey m): ∃k:List UInt8,m=keyM k∧k.length=32:=by
 obtain⟨l,rfl,hl,h⟩:=h;obtain⟨kb,e,hk⟩:=zp3 l h;exact⟨kb,by unfold keyM;rw [e],om⟩
theorem zq6 {W:World} {r:Reach} {b0:Nat} {v:Value} {P:Program} {t e:TypeId} {n:Nat} (ht:P.underlying t=some (.array n e)) (h:Value.okWide P W r b0 t v): ∃xs:Array Value,v= .agg xs:=by
 simp only [Value.okWide,ht] at h;obtain⟨cs,h1,_⟩:=h;exact⟨cs,h1⟩
end
end Go.Proofs.YthdhlcicpcnbhaaGreatDoor
namespace Go.Proofs.YthdhlcicpcnbhaaGreatDoor.admitLists
open Go.Proofs.YthdhlcicpcnbhaaGreatDoor
theorem r1:(Rows.admitListsRow.inPlace == Tryz.prog.inPlace 10)=true:=by kernel_rfl
theorem r2:(Rows.admitListsRow.unfollowed == Tryz.prog.unfollowed 10)=true:=by kernel_rfl
theorem r3:(Rows.admitListsRow.recurses == Tryz.prog.recurses 10)=true:=by kernel_rfl
theorem r4:(Rows.admitListsRow.named == Tryz.prog.varsNamed 10)=true:=by kernel_rfl
set_option maxRecDepth 100000 in
theorem closed:joinedFacts Tryz.prog 10 Tryz.f10 (OpenSpec.ofChange Rows.admitListsSpec).bare Rows.admitListsRow=true:=by
 simp only [joinedFacts,b₀]
 and_intros
 all_goals first
  | (with_reducible exact r1)
  | (with_reducible exact r2)
  | (with_reducible exact r3)
  | (with_reducible exact r4)
  | kernel_rfl
end Go.Proofs.YthdhlcicpcnbhaaGreatDoor.admitLists
namespace Go.Proofs.YthdhlcicpcnbhaaGreatDoor.admitLists
open Go.ChangeShapes Go.WideShapes Go.ChangeAt Go.RowKit Go.Proofs.YthdhlcicpcnbhaaGreatDoor
set_option maxRecDepth 100000 in
theorem contract (H:Type) (enc:TypeId×Value→H) (W:World) (base:Nat) (args:Array Value) (ds gs:List (DataW H)) (before:List MemPlace)
  (hval: ∀(j:Nat) t v,Tryz.f10.params[j]? =some t→args[j]? =some v→Value.okWide Tryz.prog W .any base t v)
  (hW:DataW.Whole enc Tryz.prog Tryz.f10.params.toList Rows.admitListsSpec.vars false W args.toList ds gs before)
  (hw:(DataW.weightsEach Tryz.prog (Tryz.f10.params.toList ++ (OpenSpec.ofChange Rows.admitListsSpec).bare.plain.varTypes Tryz.prog) (ds ++ gs)).all (· ≤reachBytes)=true)
  (hL:laidMetH Tryz.prog Rows.admitListsRow.laid W) (hopen:W.ShapedOpen Tryz.prog) :
  Calls Tryz.prog 10 args W fun e W'=> ∃v,e= .returned v∧Rows.admitListsSpec.post enc Tryz.prog Tryz.f10 false true false false W args v W':=by
 have hW':=hW
 obtain⟨p,q,hA0,hV,rfl,hfz,hnd⟩:=hW
 have hA:DataW.TrodAll enc Tryz.prog W 0 (fun _=>true) true Tryz.f10.params.toList args.toList ds p:=hA0
 rw [Tryz.params10] at hA hval hw
 obtain⟨v0,vs0,d0,ds0,p0,q0,hargs,rfl,rfl,h0,r0⟩:=trodAll_cons hA
 obtain⟨v1,vs1,d1,ds1,p1,q1,rfl,rfl,rfl,h1,r1⟩:=trodAll_cons r0
 obtain⟨v2,vs2,d2,ds2,p2,q2,rfl,rfl,rfl,h2,r2⟩:=trodAll_cons r1
 obtain⟨rfl,rfl,rfl⟩:=trodAll_nil r2
 obtain rfl:args= #[v0,v1,v2] :=by cases args;simp_all
 obtain⟨rfl,rfl⟩:=trodVars_none hV
 have k0:=h0
 have lt0: ∀x∈p0,x.block < W.heap.size:=by obtain⟨m,hm⟩:=k0;exact DataW.trod_lt m _ _ _ hm
 have k1:=h1
 have lt1: ∀x∈p1,x.block < W.heap.size:=by obtain⟨m,hm⟩:=k1;exact DataW.trod_lt m _ _ _ hm
 have k2:=h2
 have lt2: ∀x∈p2,x.block < W.heap.size:=by obtain⟨m,hm⟩:=k2;exact DataW.trod_lt m _ _ _ hm
 simp only [List.append_nil] at hW'
 have hw:(d0.weights Tryz.prog 26 ++ (d1.weights Tryz.prog 55 ++ (d2.weights Tryz.prog 3 ++ (DataW.weightsEach Tryz.prog ((OpenSpec.ofChange Rows.admitListsSpec).bare.plain.varTypes Tryz.prog) [])))).all (· ≤reachBytes)=true:=hw
 simp only [List.all_append,b₀] at hw
 obtain⟨hw0,hw1,hw2,_⟩:=hw
 obtain⟨A0,n0,cap0,rfl⟩:=okWide_slice Tryz.underlying26 (hval 0 26 v0 rfl rfl)
 obtain⟨fuel0,hf0⟩:=h0
 obtain⟨_,m0,hm0,hr0,hb0⟩:=vi.2 enc W _ true fuel0 _ d0 p0 hf0 hw0
 obtain⟨x0,rfl,hx0⟩:=qK hm0
 obtain⟨A1,rfl⟩:=zq6 Tryz.underlying55 (hval 1 55 v1 rfl rfl)
 obtain⟨fuel1,hf1⟩:=h1
 obtain⟨_,m1,hm1,hr1,hb1⟩:=opn_key.2 enc W _ true fuel1 _ d1 p1 hf1 hw1
 obtain⟨x1,rfl,hx1⟩:=zq8 hm1
 obtain⟨a2,rfl,rfl,rfl,wa2⟩:=open_int Tryz.underlying3 (hval 2 3 v2 rfl rfl) h2
 refine(zq7 x0 hx0 x1 hx1 a2 W (Bq W) [_,_,_] (vf (show laidMet Tryz.prog w6 W from hL) hopen) (fun b o h=>h) (.cons (.val [_] hr0) (.cons (.val _ hr1) (.cons (.val [_] .int) .nil)))).mono fun e W' ⟨v,he,hv,bel⟩=>?_
 subst he
 obtain rfl:=hv.bool_
 exact⟨_,rfl,_,_,_,[],_,[],hW',trodAll_mk1 (shut_bool Tryz.underlying4 _),(trodAll_cons_mk (Below.trod na (by kernel_rfl) (ot (by kernel_rfl)) k0 bel lt0) (trodAll_cons_mk (Below.trod na (by kernel_rfl) (ot (by kernel_rfl)) k1 bel lt1) (trodAll_cons_mk (shut_int Tryz.underlying3 wa2) trodAll_mk0))),rfl,bel.frame _,fun h=>by cases h⟩
theorem reads (os:Os) {H:Type} (enc:TypeId×Value→H): ∃places,DataW.whole enc Tryz.prog ((rB os).forCall (fun _ _=>0) ⟨#[], #[.slice none 0 0, .agg #[.int .u8 0, .int .u8 0, .int .u8 0, .int .u8 0, .int .u8 0, .int .u8 0, .int .u8 0, .int .u8 0, .int .u8 0, .int .u8 0, .int .u8 0, .int .u8 0, .int .u8 0, .int .u8 0, .int .u8 0, .int .u8 0, .int .u8 0, .int .u8 0, .int .u8 0, .int .u8 0, .int .u8 0, .int .u8 0, .int .u8 0, .int .u8 0, .int .u8 0, .int .u8 0, .int .u8 0, .int .u8 0, .int .u8 0, .int .u8 0, .int .u8 0, .int .u8 0], .int .i64 0],[]⟩).memory Tryz.f10.params.toList Rows.admitListsSpec.vars false #[Value.slice none 0 0,Value.agg #[.int .u8 0, .int .u8 0, .int .u8 0, .int .u8 0, .int .u8 0, .int .u8 0, .int .u8 0, .int .u8 0, .int .u8 0, .int .u8 0, .int .u8 0, .int .u8 0, .int .u8 0, .int .u8 0, .int .u8 0, .int .u8 0, .int .u8 0, .int .u8 0, .int .u8 0, .int .u8 0, .int .u8 0, .int .u8 0, .int .u8 0, .int .u8 0, .int .u8 0, .int .u8 0, .int .u8 0, .int .u8 0, .int .u8 0, .int .u8 0, .int .u8 0, .int .u8 0],Value.int .i64 0].toList 8=some ([.nil, .agg [.lit (.int .u8 0), .lit (.int .u8 0), .lit (.int .u8 0), .lit (.int .u8 0), .lit (.int .u8 0), .lit (.int .u8 0), .lit (.int .u8 0), .lit (.int .u8 0), .lit (.int .u8 0), .lit (.int .u8 0), .lit (.int .u8 0), .lit (.int .u8 0), .lit (.int .u8 0), .lit (.int .u8 0), .lit (.int .u8 0), .lit (.int .u8 0), .lit (.int .u8 0), .lit (.int .u8 0), .lit (.int .u8 0), .lit (.int .u8 0), .lit (.int .u8 0), .lit (.int .u8 0), .lit (.int .u8 0), .lit (.int .u8 0), .lit (.int .u8 0), .lit (.int .u8 0), .lit (.int .u8 0), .lit (.int .u8 0), .lit (.int .u8 0), .lit (.int .u8 0), .lit (.int .u8 0), .lit (.int .u8 0)], .lit (.int .i64 0)],[],places):=
 ⟨[],by kernel_rfl⟩
set_option maxRecDepth 100000 in
theorem lifted (os:Os) (started:os.Started) (H:Type) (enc:TypeId×Value→H) (F:Stop.Interp) :
  ReturnsInHanded {} Tryz.checked os 10 .any ((OpenSpec.ofChange Rows.admitListsSpec).preRow enc Tryz.prog Tryz.f10 Rows.admitListsRow.domain false Rows.admitListsRow.laid) (((OpenSpec.ofChange Rows.admitListsSpec).at F).post enc Tryz.prog Tryz.f10 false true false false):=by
 obtain⟨places,hx⟩:=reads os enc
 refine returnsInHanded_of_row (C:=Tryz.checked) (s:=OpenSpec.ofChange Rows.admitListsSpec) PJ started (by kernel_rfl) Tryz.func10
  (mG (enc:=enc) (C:=Tryz.checked) (rB os) (World.laidAll_os _ _ _) #[.slice none 0 0, .agg #[.int .u8 0, .int .u8 0, .int .u8 0, .int .u8 0, .int .u8 0, .int .u8 0, .int .u8 0, .int .u8 0, .int .u8 0, .int .u8 0, .int .u8 0, .int .u8 0, .int .u8 0, .int .u8 0, .int .u8 0, .int .u8 0, .int .u8 0, .int .u8 0, .int .u8 0, .int .u8 0, .int .u8 0, .int .u8 0, .int .u8 0, .int .u8 0, .int .u8 0, .int .u8 0, .int .u8 0, .int .u8 0, .int .u8 0, .int .u8 0, .int .u8 0, .int .u8 0], .int .i64 0] (yL os _) (by kernel_rfl)
   (OpenSpec.preRow_of_cond 8 hx (by kernel_rfl) (fun k hk=>by cases hk) (by kernel_rfl) (vg os _))) ?_
 intro W base args ds gs before hval hW _ _ hw hL hopen _
 exact contract H enc W base args ds gs before hval hW hw hL hopen
theorem said:Rows.AdmitListsSaid:=
 OpenClaim.holds_of_cond 10 Tryz.f10 rfl rfl rfl rfl rfl rfl rfl ⟨rfl,rfl,rfl,rfl,rfl⟩ rfl rfl rfl rfl rfl (by kernel_rfl) Tryz.func10 closed
  (ot (by kernel_rfl)) (by unfold Func.isWrapper;first | (rw [if_pos (by decide +kernel)];kernel_rfl) | (rw [if_neg (by decide +kernel)];exact⟨rfl,rfl⟩))
  (fun os started H enc _ F=>by rw [OpenClaim.pre_eq_preRow];exact lifted os started H enc F)
theorem plain (f:FuncId) (fn:Func) (hf:Tryz.pinned.checked.prog.funcNamed "mempool/mempoollaw22.AdmitLists" =some f) (hfn:Tryz.pinned.checked.prog.funcs[f]? =some fn) :
  true=Tryz.pinned.checked.prog.looks [] ∧∀(j:Nat) t,fn.params[j]? =some t→Tryz.pinned.checked.prog.wantsStandIn t=false:=by
 obtain rfl:f=10:=Option.some.inj ((show Tryz.prog.funcNamed "mempool/mempoollaw22.AdmitLists" =some 10 by kernel_rfl).symm.trans hf) |>.symm
 obtain rfl:fn=Tryz.f10:=(Option.some.inj (Tryz.func10.symm.trans hfn)).symm
 refine⟨by kernel_rfl,fun j t ht=>?_⟩
 have key:(Tryz.f10.params.all fun t=>Tryz.prog.wantsStandIn t == false)=true:=by kernel_rfl
 have:=Array.all_eq_true_iff_forall_mem.1 key t (Array.mem_of_getElem? ht)
 show Tryz.prog.wantsStandIn t=false
 simpa using this
theorem card:Rows.AdmitListsCardSaid:=
 Claim7.holds_tied_plain_at .later [] _ _ _ _ said (fun _ h=>by cases h) (by kernel_rfl) (fun _ h=>by cases h) admitLists_row_tie rfl ⟨rfl,rfl⟩ (by kernel_rfl) rfl plain (by kernel_rfl)
end Go.Proofs.YthdhlcicpcnbhaaGreatDoor.admitLists
