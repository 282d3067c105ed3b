/- Parts of a proof, one behind the other: Bt, W1, W8, W9, WA, WB, WC, WD, WR, WU, WI, WJ. -/
import Derived.Test.YtohikcplmbkmeaaGreatDoorW09
open List renaming pairwise_cons → a₀,mem_cons → a₂,take_append_of_le_length → a₅,mem_cons_self → a₇,getElem?_eq_getElem → b₁,find?_cons_of_neg → b₄,flatten_cons → b₅,mem_cons_of_mem → b₇,drop_eq_getElem_cons → b₈,getElem?_eq_some_iff → b₉,append_assoc → c₁,map_cons → c₃,getElem_mem → c₄,length_take → c₅,take_append_drop → c₆,mem_of_getElem? → d₀,mem_of_mem_drop → d₁,length_map → d₂,length_append → d₅,length_drop → d₈,length_eq_zero_iff → d₉,map_append → e₁,find?_cons_of_pos → e₅,any_cons → f₀,getElem?_drop → f₂,prefix_append → f₃,drop_length → f₆,take_length → f₈,perm_middle → f₉,length_cons → g₀,nil_append → g₂,any_append → g₄,append_nil → g₅,drop_zero → g₆,take_zero → g₇,take_take → g₈
open Nat renaming div_add_mod → a₁,mul_comm → a₃,div_lt_iff_lt_mul → a₄,le_refl → a₆,mul_le_mul_right → a₉,zero_le → b₀,mod_lt → b₂,le_mul_of_pos_left → b₃,zero_add → b₆,mul_assoc → c₂,succ_mul → c₇,two_pow_pos → c₈,zero_mul → c₉,one_mul → d₃,min_def → d₄,lt_trans → d₇,min_eq_left → e₀,not_lt_zero → e₂,add_mul → e₃,sub_mul → e₄,le_div_iff_mul_le → e₆,mul_le_mul → e₇,min → e₈,lt_of_le_of_lt → f₁,mul_add → f₄,pow_add → f₅,mod_eq_of_lt → f₇
open Int renaming natCast_mul → a₈,fdiv_eq_ediv_of_nonneg → d₆,natCast_pow → g₁,natCast_add → g₃
open And renaming intro → c₀
open Prod.mk renaming injEq → e₉
set_option maxRecDepth 20000
set_option maxHeartbeats 16000000
set_option linter.unusedVariables false
set_option linter.unusedSimpArgs false
namespace Go.Proofs.YtohikcplmbkmeaaGreatDoor
open Go.RowKit
section
def LK (y1 y0 u1:Nat):Nat→Nat→Nat→Nat
 | 0,q,_=>q
 | f + 1,q,r=>if 4294967296≤q∨4294967296 * r + u1 < q * y0 then(if 4294967296≤r + y1 then q - 1 else LK y1 y0 u1 f (q - 1) (r + y1)) else q
theorem Dx {y1 y0 u1 u:Nat} (h1:y1 < 4294967296) (h0:y0 < 4294967296) (hu:u < y1 * 4294967296 + y0) (hu1:u1 < 4294967296): ∀(f q r:Nat),q * y1 + r=u→r < 4294967296→(u * 4294967296 + u1) / (y1 * 4294967296 + y0)≤q→4294967296≤r + f * y1→LK y1 y0 u1 f q r=(u * 4294967296 + u1) / (y1 * 4294967296 + y0)
 | 0,q,r,_,hr,_,hf=>by omega
 | f + 1,q,r,he,hr,hq,hf=>by
  have hy:0 < y1 * 4294967296 + y0:=om
  have ex:q * (y1 * 4294967296 + y0)=q * y1 * 4294967296 + q * y0:=by rw [f₄,c₂]
  unfold LK
  by_cases hc:4294967296≤q∨4294967296 * r + u1 < q * y0
  ·rw [if_pos hc]
   have hlt:(u * 4294967296 + u1) / (y1 * 4294967296 + y0) < q:=by
    rw [a₄ hy]
    rcases hc with hc | hc
    ·have:=a₉ (y1 * 4294967296 + y0) hc
     omega
    ·rw [ex]
     generalize q * y1=A at *
     generalize q * y0=C at *
     omega
   have hq1:1≤q:=f₁ (b₀ _) hlt
   have e1:(q - 1) * y1 + (r + y1)=u:=by
    have:(q - 1) * y1 + y1=q * y1:=by rw [← c₇];congr 1;omega
    omega
   by_cases hb:4294967296≤r + y1
   ·rw [if_pos hb]
    have hle:q - 1≤(u * 4294967296 + u1) / (y1 * 4294967296 + y0):=by
     rw [e₆ hy]
     have hlt2:q - 1 < 4294967296:=by
      rcases Nat.lt_or_ge (q - 1) 4294967296 with h | h
      ·exact h
      ·have:=a₉ y1 h
       omega
     have h3:(q - 1) * y0≤4294967295 * 4294967295:=e₇ om om
     have ey:(q - 1) * (y1 * 4294967296 + y0)=(q - 1) * y1 * 4294967296 + (q - 1) * y0:=by rw [f₄,c₂]
     rw [ey]
     generalize (q - 1) * y1=A at *
     generalize (q - 1) * y0=C at *
     omega
    omega
   ·rw [if_neg hb]
    refine Dx h1 h0 hu hu1 f (q - 1) (r + y1) e1 om om ?_
    rw [c₇] at hf
    omega
  ·rw [if_neg hc]
   have hle:q≤(u * 4294967296 + u1) / (y1 * 4294967296 + y0):=by
    rw [e₆ hy,ex]
    have hc1:q * y0≤4294967296 * r + u1:=by
     rcases Nat.lt_or_ge (4294967296 * r + u1) (q * y0) with h | h
     ·exact absurd (.inr h) hc
     ·exact h
    generalize q * y1=A at *
    generalize q * y0=C at *
    omega
   omega
theorem IN {y1 y0 u1 u:Nat} (h1:y1 < 4294967296) (h2:2147483648≤y1) (h0:y0 < 4294967296) (hu:u < y1 * 4294967296 + y0) (hu1:u1 < 4294967296):LK y1 y0 u1 2 (u / y1) (u % y1)=(u * 4294967296 + u1) / (y1 * 4294967296 + y0):=by
 have hy:0 < y1 * 4294967296 + y0:=om;refine Dx h1 h0 hu hu1 2 _ _ (by rw [a₃];exact a₁ u y1) (d₇ (b₂ _ om) h1) ?_ om
 -- the guess is never too small
 have hm:=a₁ u y1;have hlt:=b₂ u (show 0 < y1 by omega);have:(u * 4294967296 + u1) / (y1 * 4294967296 + y0) < u / y1 + 1:=by
  rw [a₄ hy];have e:(u / y1 + 1) * (y1 * 4294967296 + y0)=(y1 * (u / y1) + y1) * 4294967296 + (u / y1 + 1) * y0:=by
   rw [f₄,← c₂,e₃ (u / y1) 1 y1,d₃,a₃ (u / y1) y1]
  rw [e];generalize y1 * (u / y1)=A at *;generalize (u / y1 + 1) * y0=C at *;omega
 omega
theorem IP (b y u u1 u0:Nat):u * (b * b) + (u1 * b + u0)=(u * b + u1) % y * b + u0 + y * ((u * b + u1) / y * b):=by
 have h:=a₁ (u * b + u1) y;have e1:u * (b * b) + (u1 * b + u0)=(u * b + u1) * b + u0:=by rw [e₃,← c₂,Nat.add_assoc]
 have e2:(y * ((u * b + u1) / y) + (u * b + u1) % y) * b=y * ((u * b + u1) / y * b) + (u * b + u1) % y * b:=by rw [e₃,c₂]
 rw [h] at e2;rw [e1,e2];omega
theorem KU (b y u u1 u0:Nat) (hy:0 < y):(u * b + u1) / y * b + ((u * b + u1) % y * b + u0) / y=(u * (b * b) + (u1 * b + u0)) / y:=by
 rw [IP b y u u1 u0,Nat.add_mul_div_left _ _ hy,Nat.add_comm]
theorem AB (b y u u1 u0:Nat):((u * b + u1) % y * b + u0) % y=(u * (b * b) + (u1 * b + u0)) % y:=by
 rw [IP b y u u1 u0,Nat.add_mul_mod_self_left]
theorem Fu (n y s:Nat):n * 2 ^ s / (y * 2 ^ s)=n / y:=Nat.mul_div_mul_right n y (c₈ s)
theorem Fv (n y s:Nat):n * 2 ^ s % (y * 2 ^ s) / 2 ^ s=n % y:=by
 rw [Nat.mul_mod_mul_right,Nat.mul_div_cancel _ (c₈ s)]
end
section
variable {G:GS}
attribute [local irreducible] ak aB aD aI aN vC aW aw
theorem KV (a b:Nat):L0 Tryz.prog G 240 [.int .u64 a, .int .u64 b, .int .u64 0] [] 0 (.tup [.int .u64 ((a + b) % 18446744073709551616:Nat), .int .u64 ((a + b) / 18446744073709551616:Nat)]) [] 0:=by
 intro w P adr vals hg hI hn hL hargs;cases hargs with | cons a1 hargs=>cases hargs with | cons a2 hargs=>cases hargs with | cons a3 hargs=>
 cases hargs;have e1:=a1.int_;have e2:=a2.int_;have e3:=a3.int_;subst e1 e2 e3;have hf:(callFunc 240 #[.int .u64 a, .int .u64 b, .int .u64 0]).run Tryz.prog w=_:=
  run_callFunc_extern Tryz.func240 (by kernel_rfl) (by kernel_rfl) (by kernel_rfl) (e:=add64Entry) (by kernel_rfl) _ w
 refine⟨.tuple #[.int .u64 ((a + b) % 18446744073709551616:Nat), .int .u64 ((a + b) / 18446744073709551616:Nat)],w,hf.trans ?_,_,rfl,P,adr,hI, .tup [.int .u64 ((a + b) % 18446744073709551616:Nat), .int .u64 ((a + b) / 18446744073709551616:Nat)] rfl (fun j m u hj hu=>?_),bG.refl _ _ _,fun _ _=>rfl,hn,fun c g hc=> .inr ⟨c,hc⟩,fun b o ho=> .inl ho,cG.refl _ _⟩
 ·have h:=run_add64 (P:=Tryz.prog) (a:Int) (b:Int) 0 om om om om w;rw [h];have e1:((a:Int) + b + 0) % 18446744073709551616=((a + b) % 18446744073709551616:Nat):=om;have e2:((a:Int) + b + 0) / 18446744073709551616=((a + b) / 18446744073709551616:Nat):=om;rw [e1,e2];rfl
 ·match j with
  | 0=>simp at hj hu;subst hj;subst hu;exact⟨_, .int,rfl⟩
  | 1=>simp at hj hu;subst hj;subst hu;exact⟨_, .int,rfl⟩
  | j + 2=>simp at hj
theorem IQ (n:Nat) (ok:Bool):aE Tryz.prog G 241 [.int .u64 n, .bool ok] (.tup [.int .u64 (if ok then n else 0:Nat), .bool ok]):=by
 cases ok
 ·refine bA seat Tryz.func241 9 ?_;refine aa ?_;(iterate 4 ((all_goals(refine aa ?_));(all_goals(first | ((first | refine ag rfl rfl ?_ rfl ?_ | refine ad rfl ?_ ?_);all_goals(intro h;(try simp only [pl] at h);(try (exfalso;omega)))) | skip))));all_goals(refine au ?_)
  all_goals rfl
 ·refine bA seat Tryz.func241 9 ?_;refine aa ?_;(iterate 4 ((all_goals(refine aa ?_));(all_goals(first | ((first | refine ag rfl rfl ?_ rfl ?_ | refine ad rfl ?_ ?_);all_goals(intro h;(try simp only [pl] at h);(try (exfalso;omega)))) | skip))));all_goals(refine au ?_)
  all_goals rfl
theorem MY (a b:Nat) (ha:bo a) (hb:bo b):aE Tryz.prog G 179 [.int .u64 a, .int .u64 b] (.tup [.int .u64 (iM a b).1, .bool (iM a b).2]):=by
 unfold bo at ha hb;have c0:=KV (G:=G) a b;have c1:=IQ (G:=G) ((a + b) % 18446744073709551616) (((a + b) / 18446744073709551616:Nat) == (0:Int));have hres:(.tup [.int .u64 (if (((a + b) / 18446744073709551616:Nat) == (0:Int)) then(a + b) % 18446744073709551616 else 0:Nat), .bool (((a + b) / 18446744073709551616:Nat) == (0:Int))] :MV)= .tup [.int .u64 (iM a b).1, .bool (iM a b).2] :=by
  unfold iM;by_cases h:a + b < 18446744073709551616
  ·have e1:(a + b) / 18446744073709551616=0:=om;have e2:(a + b) % 18446744073709551616=a + b:=om;simp [h,e1,e2]
  ·have e1:(((a + b) / 18446744073709551616:Nat) == (0:Int))=false:=by rw [beq_eq_false_iff_ne];omega
   rw [e1];simp [h]
 rw [hres] at c1;generalize iM a b=p at *;obtain⟨v,ok⟩:=p;refine bA seat Tryz.func179 20 ?_;refine aa ?_;refine GY rfl aA rfl (c0) [] [] ⟨rfl,trivial,rfl,lm,mm⟩ rfl rfl ?_;refine aa ?_;refine dL (c1) ?_;refine au ?_;rfl
theorem Dy (a b:Nat) (ha:bo a) (hb:bo b):aE Tryz.prog G 198 [.int .u64 a, .int .u64 b] (.tup [.int .u64 (a * b / 18446744073709551616:Nat), .int .u64 (a * b % 18446744073709551616:Nat)]):=by
 obtain⟨w,p,q,r,hw,hp,hq,hr,bw,bp,bq,br,hab,hhi⟩:=BR a b ha hb;unfold bo at ha hb;have mk: ∀x y z:Nat,x * y=z→z < 18446744065119617026→IntKind.u64.wrap ((x:Int) * (y:Int))=(z:Int):=fun x y z h hz=>by
  rw [← a₈,h];exact bM _ om om
 have m1:=aU.mk (mk _ _ _ hw bw);have m2:=aU.mk (mk _ _ _ hp bp);have m3:=aU.mk (mk _ _ _ hq bq);have m4:=aU.mk (mk _ _ _ hr br);have m5:=aU.mk (show IntKind.u64.wrap ((a:Int) * (b:Int))=((a * b % 18446744073709551616:Nat):Int) by rw [wu64,← a₈];omega);have s1:=aU.mk (gX a);have s2:=aU.mk (gX b);have s3:=aU.mk (gX p);have l1:=aU.mk (ib (m:=a) ha);have l2:=aU.mk (ib (m:=b) hb);clear hw hp hq hr mk;generalize a * b=n at *;subst hab;have a1:=aU.mk (show IntKind.u64.wrap ((q:Int) + ((p / 4294967296:Nat):Int))=((q + p / 4294967296:Nat):Int) from bM _ om om);have l3:=aU.mk (ib (m:=q + p / 4294967296) om);have s4:=aU.mk (gX (q + p / 4294967296));have a2:=aU.mk (show IntKind.u64.wrap ((((q + p / 4294967296) % 4294967296:Nat):Int) + (r:Int))=(((q + p / 4294967296) % 4294967296 + r:Nat):Int) from bM _ om om);have s5:=aU.mk (gX ((q + p / 4294967296) % 4294967296 + r));have a3:=aU.mk (show IntKind.u64.wrap ((w:Int) + (((q + p / 4294967296) / 4294967296:Nat):Int))=((w + (q + p / 4294967296) / 4294967296:Nat):Int) from bM _ om om);have a4:=aU.mk (show IntKind.u64.wrap (((w + (q + p / 4294967296) / 4294967296:Nat):Int) + ((((q + p / 4294967296) % 4294967296 + r) / 4294967296:Nat):Int))=((w + (q + p / 4294967296) / 4294967296 + ((q + p / 4294967296) % 4294967296 + r) / 4294967296:Nat):Int) from bM _ om om);refine bA seat Tryz.func198 51 ?_;refine aa ?_;refine au ?_;refine congrArg MV.tup ?_;refine List.cons_eq_cons.2 ⟨congrArg (MV.int .u64) ?_,rfl⟩;omega
theorem MZ (a b:Nat) (ha:bo a) (hb:bo b):aE Tryz.prog G 197 [.int .u64 a, .int .u64 b] (.tup [.int .u64 (kx a b).1, .bool (kx a b).2]):=by
 have c0:=Dy (G:=G) a b ha hb;have c1:=IQ (G:=G) (a * b % 18446744073709551616) ((a * b / 18446744073709551616:Nat) == (0:Int));have hres:(.tup [.int .u64 (if ((a * b / 18446744073709551616:Nat) == (0:Int)) then a * b % 18446744073709551616 else 0:Nat), .bool ((a * b / 18446744073709551616:Nat) == (0:Int))] :MV)= .tup [.int .u64 (kx a b).1, .bool (kx a b).2] :=by
  unfold kx;generalize a * b=n;by_cases h:n < 18446744073709551616
  ·have e1:n / 18446744073709551616=0:=om;have e2:n % 18446744073709551616=n:=om;simp [h,e1,e2]
  ·have e1:((n / 18446744073709551616:Nat) == (0:Int))=false:=by rw [beq_eq_false_iff_ne];omega
   rw [e1];simp [h]
 rw [hres] at c1;generalize kx a b=p at *;generalize a * b=n at *;obtain⟨v,ok⟩:=p;refine bA seat Tryz.func197 20 ?_;refine aa ?_;refine dL (c0) ?_;refine dL (c1) ?_;refine au ?_;rfl
theorem Cj (l:List Nat) (hl:l.length≤1000000) (hs: ∀a∈l,bo a):aE Tryz.prog G 123 [.sl l.length (fq l)] (.tup [.int .u64 (sumG l 0).1, .bool (sumG l 0).2]):=by
 have h0:bo 0:=by unfold bo;omega
 generalize hv:sumG l 0=v;obtain⟨S,ok⟩:=v;dsimp only;refine bA seat Tryz.func123 26 ?_;refine aa ?_;refine av (Nat×Nat) (fun x=> [(11, .int .i64 x.1),(10, .int .i64 l.length),(9, .sl l.length (fq l)),(4, .int .u64 x.2)]) (fun _=> []) 0 (fun x=>x.1≤l.length∧bo x.2∧sumG (l.drop x.1) x.2=(S,ok)) (fun x=>l.length - x.1) (0,0) ⟨b₀ _,h0,by rw [g₆];exact hv⟩ (vm [] []) ?_;clear hv;rintro⟨k,z⟩ ⟨hk,hz,hR⟩;try dsimp only
 dsimp only at hk hz hR;refine aa ?_;refine ad rfl ?_ ?_ <;> intro h
 ·have hk':k < l.length:=by have:=ot h;omega
  have hel:=aj.mk (C5 hk');have c1:=MY (G:=G) z l[k] hz (hs _ (c₄ hk'));have hza:bo (iM z l[k]).1:=by
   unfold iM;split
   ·assumption
   ·exact h0
  rw [b₈ hk',sumG] at hR;generalize l[k] =e at *;generalize iM z e=p at *;obtain⟨y,b⟩:=p;dsimp only at c1 hR hza;cases b with
  | true=>
   simp only [if_true] at hR;refine aa ?_;(iterate 4 ((all_goals(refine aa ?_));(all_goals(first | (refine ah rfl aA rfl (src (c1)) rfl rfl ?_) | ((first | refine ag rfl rfl ?_ rfl ?_ | refine ad rfl ?_ ?_);all_goals(intro h;(try simp only [pl] at h);(try (exfalso;omega)))) | skip))));exact⟨(k + 1,y),⟨by show k + 1≤l.length;omega,hza,hR⟩,by show l.length - (k + 1) < l.length - k;omega,(by dsimp only;exact(vm [] []))⟩
  | false=>
   simp only [Bool.false_eq_true,if_false,e₉] at hR;obtain⟨rfl,rfl⟩:=hR;refine aa ?_;(iterate 4 ((all_goals(refine aa ?_));(all_goals(first | (refine ah rfl aA rfl (src (c1)) rfl rfl ?_) | ((first | refine ag rfl rfl ?_ rfl ?_ | refine ad rfl ?_ ?_);all_goals(intro h;(try simp only [pl] at h);(try (exfalso;omega)))) | skip))));all_goals(refine au ?_)
   all_goals rfl
 ·have hk':k=l.length:=by have:=oF h;omega
  subst hk';rw [f₆,sumG] at hR;simp only [e₉] at hR;obtain⟨rfl,rfl⟩:=hR;refine aa ?_;all_goals(refine au ?_)
  all_goals rfl
theorem IS (n:Int) (hn: -9223372036854775808≤n∧n < 9223372036854775808):aE Tryz.prog G 196 [.int .i64 n] (.int .u64 (limS n)):=by
 have hw:IntKind.u64.wrap (if 1073741824 < (if 0 > n then 0 else n) then 1073741824 else(if 0 > n then 0 else n))=(limS n:Int):=by
  rw [wu64];unfold limS;split <;> split <;> omega
 have e1:=aU.mk hw;refine bA seat Tryz.func196 7 ?_;refine aa ?_;refine au ?_;first | rfl | exact congrArg (MV.int .u64) hw | skip
 try (refine congrArg (MV.int .u64) ?_;rw [wu64];unfold limS;omega)
end
section
variable {G:GS}
attribute [local irreducible] ak aB aD aI aN vC aW aw
theorem O6 (x:Nat) (hx:bo x):aE Tryz.prog G 249 [.int .u64 x] (.int .i64 (64 - (Lib.bitLen x:Int))):=by
 intro w P vals hg hP hargs;cases hargs with
 | cons h t=>
  cases t with
  | nil=>
   obtain rfl:=h.int_;refine(Tryz.bits_LeadingZeros64 (x:Int) w om (by unfold bo at hx;omega)).mono ?_;rintro e w' ⟨rfl,rfl⟩;exact⟨_,rfl, .val [_] .int,Below.refl _ _⟩
theorem Na {m s:Nat} (hs:s < 64):IntKind.u64.wrap ((m:Int) * 2 ^ (min (s:Int).toNat IntKind.u64.bits))=((m * 2 ^ s % 18446744073709551616:Nat):Int):=by
 have e:min (s:Int).toNat IntKind.u64.bits=s:=by rw [Int.toNat_natCast];exact e₀ (Nat.le_of_lt hs)
 rw [e,wu64,show ((m:Int) * 2 ^ s)=((m * 2 ^ s:Nat):Int) by rw [a₈,g₁];rfl];omega
theorem O7 (m:Nat) {s:Nat} (hs:s≤64):((m:Int).fdiv (2 ^ (min ((64:Int) - (s:Int)).toNat IntKind.u64.bits)))=((m / 2 ^ (64 - s):Nat):Int):=by
 have e:min ((64:Int) - (s:Int)).toNat IntKind.u64.bits=64 - s:=by
  rw [show ((64:Int) - (s:Int)).toNat=64 - s by omega];exact e₀ (show 64 - s≤64 by omega)
 rw [e,d₆ _ (by exact Int.le_of_lt (Int.pow_pos (by decide))),Int.natCast_ediv,g₁];rfl
theorem Og {a b s:Nat} (hs:s < 64) (hb:b < 2 ^ s) (h:a * 2 ^ s + b < 18446744073709551616):IntKind.u64.wrap ((BitVec.ofInt IntKind.u64.bits ((a * 2 ^ s:Nat):Int) ||| BitVec.ofInt IntKind.u64.bits (b:Int)).toNat:Int)=((a * 2 ^ s + b:Nat):Int):=by
 have e:a * 2 ^ s ||| b=a * 2 ^ s + b:=by
  have:=Nat.shiftLeft_add_eq_or_of_lt hb a;rw [Nat.shiftLeft_eq] at this;exact this.symm
 rw [BitVec.toNat_or,eU _ _ (show a * 2 ^ s < 2 ^ IntKind.u64.bits by show _ < 18446744073709551616;omega),eU _ _ (show b < 2 ^ IntKind.u64.bits by show _ < 18446744073709551616;omega),e,wu64];omega
theorem AD {a b:Nat} (ha:a < 18446744073709551616):IntKind.u64.wrap (((a:Nat):Int) - ((a / b * b:Nat):Int))=((a % b:Nat):Int):=by
 have h:=a₁ a b;rw [a₃] at h;rw [wu64]
 with_reducible generalize a / b * b=c at *
 with_reducible generalize a % b=d at *
 omega
theorem AE {a b:Nat} (ha:a < 18446744073709551616):IntKind.u64.wrap (((a / b:Nat):Int) * (b:Int))=((a / b * b:Nat):Int):=by
 have h:=Nat.div_mul_le_self a b;rw [← a₈,wu64]
 with_reducible generalize a / b * b=c at *
 omega
theorem IT (a b:Nat):IntKind.u64.wrap ((a:Int) * (b:Int))=((a * b % 18446744073709551616:Nat):Int):=by
 rw [wu64,← a₈];omega
theorem Dz {A c d:Nat} (h:c + d=A) (hd:d < 18446744073709551616):IntKind.u64.wrap (((A % 18446744073709551616:Nat):Int) - ((c % 18446744073709551616:Nat):Int))=(d:Int):=by
 rw [wu64];omega
theorem IU (U:Nat):IntKind.u64.wrap ((U:Int) * 4294967296)=((U * 4294967296 % 18446744073709551616:Nat):Int):=by rw [wu64];omega
theorem IV (U u:Nat):IntKind.u64.wrap (((U * 4294967296 % 18446744073709551616:Nat):Int) + (u:Int))=(((U * 4294967296 + u) % 18446744073709551616:Nat):Int):=by rw [wu64];omega
theorem KW (hi lo y:Nat) (hlo:bo lo) (hy:bo y) (hlt:hi < y):aE Tryz.prog G 199 [.int .u64 hi, .int .u64 lo, .int .u64 y] (.tup [.int .u64 ((hi * 18446744073709551616 + lo) / y:Nat), .int .u64 ((hi * 18446744073709551616 + lo) % y:Nat)]):=by
 have hy0:0 < y:=om;unfold bo at hlo hy;by_cases h0:hi=0
 ·subst h0;rw [c₉,b₆];have f1:=bE.mk (show(y:Int)≠0 by omega);have f2:=aU.mk (zP (a:=lo) y hlo);have f3:=aU.mk (Lw lo y);refine bA seat Tryz.func199 135 ?_;refine aa ?_;refine ad rfl ?_ ?_ <;> intro h
  ·exact absurd (eq_of_beq h) om
  refine aa ?_;refine ad rfl ?_ ?_ <;> intro h
  ·exact absurd (ot h) om
  refine aa ?_;refine al [ae 0,ae 1,ae 2,ae 3,ae 4,ae 5,ae 6,ae 7] ?_;refine aa ?_;refine au ?_;rfl
 have c1:=O6 (G:=G) y hy;have hbl:=Lib.bitLenAux_bounds 64 y hy om;have hL:Lib.bitLen y≤64:=Lib.bitLen_le y 64 (a₆ _) hy;obtain⟨s,hs⟩: ∃s,s=64 - Lib.bitLen y:=⟨_,rfl⟩
 have hs64:s < 64:=by have:=hbl.1;unfold Lib.bitLen at hs;omega
 rw [show (64 - (Lib.bitLen y:Int))=(s:Int) by omega] at c1;have hpp:2 ^ s * 2 ^ (64 - s)=18446744073709551616:=by rw [← f₅,show s + (64 - s)=64 by omega]
 have hp0:0 < 2 ^ s:=c₈ s;have hYlt:y * 2 ^ s < 18446744073709551616:=by
  have h1:y * 2 ^ s < 2 ^ Lib.bitLen y * 2 ^ s:=Nat.mul_lt_mul_of_pos_right hbl.2.2 hp0;rw [← f₅,show Lib.bitLen y + s=64 by omega] at h1;exact h1
 have hYge:9223372036854775808≤y * 2 ^ s:=by
  have h1:2 ^ (Lib.bitLen y - 1) * 2 ^ s≤y * 2 ^ s:=a₉ _ hbl.2.1;rw [← f₅,show Lib.bitLen y - 1 + s=63 by have:=hbl.1;unfold Lib.bitLen at hs ⊢;unfold Lib.bitLen at hL;omega] at h1;exact h1
 have hlq:lo / 2 ^ (64 - s) < 2 ^ s:=by rw [a₄ (c₈ _),hpp];exact hlo
 have hUY:hi * 2 ^ s + lo / 2 ^ (64 - s) < y * 2 ^ s:=by
  have h1:(hi + 1) * 2 ^ s≤y * 2 ^ s:=a₉ _ hlt;rw [c₇] at h1;omega
 have hN:(hi * 18446744073709551616 + lo) * 2 ^ s=(hi * 2 ^ s + lo / 2 ^ (64 - s)) * 18446744073709551616 + lo * 2 ^ s % 18446744073709551616:=by
  have h1:lo * 2 ^ s / 18446744073709551616=lo / 2 ^ (64 - s):=by
   rw [← hpp,a₃ lo,Nat.mul_div_mul_left _ _ hp0]
  have h2:=a₁ (lo * 2 ^ s) 18446744073709551616;rw [h1] at h2;rw [e₃,Nat.mul_right_comm hi];omega
 have hdq:=Fu (hi * 18446744073709551616 + lo) y s;have hdr:=Fv (hi * 18446744073709551616 + lo) y s;rw [hN] at hdq hdr;have hQb:(hi * 18446744073709551616 + lo) / y < 18446744073709551616:=by rw [a₄ hy0,a₃];have:=a₉ 18446744073709551616 (show hi + 1≤y from hlt);omega
 obtain⟨QQ,hQg⟩: ∃x,x=(hi * 18446744073709551616 + lo) / y:=⟨_,rfl⟩
 obtain⟨RR,hRg⟩: ∃x,x=(hi * 18446744073709551616 + lo) % y:=⟨_,rfl⟩
 rw [← hQg] at hdq hQb ⊢;rw [← hRg] at hdr ⊢;have e1:=aU.mk (Na (m:=y) hs64);rw [f₇ hYlt] at e1;have e2:=aU.mk (Na (m:=hi) hs64);have hhi:hi * 2 ^ s < 18446744073709551616:=f₁ (Nat.le_add_right _ _) (d₇ hUY hYlt);rw [f₇ hhi] at e2;have e3:=aU.mk (O7 lo (Nat.le_of_lt hs64));have e4:=aU.mk (Og (a:=hi) hs64 hlq om);have e5:=aU.mk (Na (m:=lo) hs64);have eshr: ∀m:Nat,((m:Int).fdiv (2 ^ (min (s:Int).toNat IntKind.u64.bits)))=((m / 2 ^ s:Nat):Int):=fun m=>N0 m hs64
 clear hN hlq hpp hbl hL;obtain⟨HS,hHS⟩: ∃x,x=hi * 2 ^ s:=⟨_,rfl⟩
 rw [← hHS] at hUY hdq hdr e2 hhi e4;obtain⟨LQ,hLQ⟩: ∃x,x=lo / 2 ^ (64 - s):=⟨_,rfl⟩
 rw [← hLQ] at hUY hdq hdr e3 e4;have hUb:lo * 2 ^ s % 18446744073709551616 < 18446744073709551616:=b₂ _ (by decide);obtain⟨U10,hU10g⟩: ∃x,x=lo * 2 ^ s % 18446744073709551616:=⟨_,rfl⟩
 rw [← hU10g] at hdq hdr e5 hUb;obtain⟨Y,hYg⟩: ∃x,x=y * 2 ^ s:=⟨_,rfl⟩
 rw [← hYg] at hYlt hYge hUY hdq hdr e1;have e7:=aU.mk (gX Y);have e8:=aU.mk (ib (m:=Y) hYlt);obtain⟨Y1,hY1⟩: ∃x,x=Y / 4294967296:=⟨_,rfl⟩
 obtain⟨Y0,hY0⟩: ∃x,x=Y % 4294967296:=⟨_,rfl⟩
 obtain⟨U,hU⟩: ∃x,x=HS + LQ:=⟨_,rfl⟩
 rw [← hY1] at e7;rw [← hY0] at e8;rw [← hU] at e4 hUY hdq hdr;have hYe:Y1 * 4294967296 + Y0=Y:=om;have hY1b:Y1 < 4294967296∧2147483648≤Y1:=om;have hY0b:Y0 < 4294967296:=om;have hU10:U10 < 18446744073709551616:=hUb;have e9:=aU.mk (gX U10);have e10:=aU.mk (ib (m:=U10) hU10);obtain⟨U1,hU1⟩: ∃x,x=U10 / 4294967296:=⟨_,rfl⟩
 obtain⟨U0,hU0⟩: ∃x,x=U10 % 4294967296:=⟨_,rfl⟩
 rw [← hU1] at e9;rw [← hU0] at e10;have hU1b:U1 < 4294967296:=om;have hU0b:U0 < 4294967296:=om;have hUlt:U < 18446744073709551616:=om;have k1:=IN hY1b.1 hY1b.2 hY0b (u:=U) om hU1b;have k2:=IN hY1b.1 hY1b.2 hY0b (u:=(U * 4294967296 + U1) % Y) (by rw [hYe];exact b₂ _ om) hU0b;rw [hYe] at k1 k2;have hdt:=KU 4294967296 Y U U1 U0 om;have hdm:=AB 4294967296 Y U U1 U0;have hUU:U * (4294967296 * 4294967296) + (U1 * 4294967296 + U0)=U * 18446744073709551616 + U10:=by
  have h1:=a₁ U10 4294967296;rw [← hU1,← hU0,a₃] at h1;rw [h1]
 rw [hUU] at hdt hdm;rw [hdq] at hdt;rw [← hdm] at hdr;have hA1:=a₁ (U * 4294967296 + U1) Y;have hR1:=b₂ (U * 4294967296 + U1) (show 0 < Y by omega);obtain⟨D,hD0⟩: ∃x,x=(U * 4294967296 + U1) / Y:=⟨_,rfl⟩
 obtain⟨R1,hR10⟩: ∃x,x=(U * 4294967296 + U1) % Y:=⟨_,rfl⟩
 rw [← hD0] at k1 hdt hA1;rw [← hR10] at k2 hdt hdr hA1 hR1;have hA2:=a₁ (R1 * 4294967296 + U0) Y;have hR2:=b₂ (R1 * 4294967296 + U0) (show 0 < Y by omega);obtain⟨E,hE0⟩: ∃x,x=(R1 * 4294967296 + U0) / Y:=⟨_,rfl⟩
 obtain⟨R0,hR00⟩: ∃x,x=(R1 * 4294967296 + U0) % Y:=⟨_,rfl⟩
 rw [← hE0] at k2 hdt hA2;rw [← hR00] at hdr hA2 hR2;rw [a₃] at hA1 hA2;have hqD:U / Y1 < 17179869184:=by rw [a₄ om];omega
 have hqE:R1 / Y1 < 17179869184:=by rw [a₄ om];omega
 have hD:=k1;have hE:=k2;have hQQ:QQ < 18446744073709551616:=hQb;have hDb:D < 4294967296:=om;have g1:=bE.mk (show(Y1:Int)≠0 by omega);have g2:=aU.mk (zP (a:=U) Y1 hUlt);have g3:=aU.mk (AE (a:=U) (b:=Y1) hUlt);have g4:=aU.mk (AD (a:=U) (b:=Y1) hUlt);have g5:=aU.mk (IU U);have g6:=aU.mk (IV U U1);have g7:=aU.mk (IT D Y);have g8:=aU.mk (Dz hA1 om);have g9:=aU.mk (zP (a:=R1) Y1 om);have g10:=aU.mk (AE (a:=R1) (b:=Y1) om);have g11:=aU.mk (AD (a:=R1) (b:=Y1) om);have g12:=aU.mk (IU R1);have g13:=aU.mk (IV R1 U0);have g14:=aU.mk (IT E Y);have g15:=aU.mk (Dz hA2 om);have g16:=aU.mk (eshr R0);have g17:=aU.mk (show IntKind.u64.wrap ((D:Int) * 4294967296)=((D * 4294967296:Nat):Int) by rw [wu64];omega);have g18:=aU.mk (show IntKind.u64.wrap (((D * 4294967296:Nat):Int) + (E:Int))=(QQ:Int) by rw [wu64];omega);have gs:=aU.mk (show IntKind.u64.wrap (s:Int)=(s:Int) by rw [wu64];omega);clear eshr k1 k2;refine bA seat Tryz.func199 135 ?_;refine aa ?_;refine ad rfl ?_ ?_ <;> intro h
 ·exact absurd (eq_of_beq h) om
 refine aa ?_;refine ad rfl ?_ ?_ <;> intro h
 ·exact absurd (ot h) om
 refine aa ?_;refine ad rfl ?_ ?_ <;> intro h
 ·exact absurd (eq_of_beq h) om
 refine aa ?_;refine dL (c1) ?_;refine pj Unit (fun _=> [(15, .int .u64 (D:Nat)),(11, .int .u64 (U:Nat)),(2, .int .u64 (Y:Nat)),(9, .int .u64 (Y1:Nat)),(10, .int .u64 (Y0:Nat)),(13, .int .u64 (U1:Nat)),(14, .int .u64 (U0:Nat)),(8, .int .u64 (s:Nat))]) (fun _=> []) (fun _=>0) (fun _=>True) (fun JQ hj=>?_) (fun _ _=>?_)
 ·refine av (Nat×Nat×Nat) (fun x=> [(15, .int .u64 (x.2.1:Nat)),(16, .int .u64 (x.2.2:Nat)),(11, .int .u64 (U:Nat)),(2, .int .u64 (Y:Nat)),(9, .int .u64 (Y1:Nat)),(10, .int .u64 (Y0:Nat)),(13, .int .u64 (U1:Nat)),(14, .int .u64 (U0:Nat)),(8, .int .u64 (s:Nat))]) (fun _=> []) 0 (fun x=>x.2.1 * Y1 + x.2.2=U∧x.2.2 < 4294967296∧4294967296≤x.2.2 + x.1 * Y1∧LK Y1 Y0 U1 x.1 x.2.1 x.2.2=D∧x.2.1 < 17179869184) (fun x=>x.1) (2,U / Y1,U % Y1) ⟨by dsimp only;rw [a₃];exact a₁ _ _,by dsimp only;exact d₇ (b₂ _ om) om,dm,hD,hqD⟩ (by dsimp only;exact(vm [] [])) ?_;rintro⟨f,q,r⟩ ⟨i1,i2,i3,i4,i5⟩;try dsimp only
  dsimp only at i1 i2 i3 i4 i5;obtain⟨f',rfl⟩: ∃f',f=f' + 1:=by
   cases f with
   | zero=>rw [c₉] at i3;omega
   | succ f=>exact ⟨f,rfl⟩
  rw [LK] at i4;rw [c₇] at i3;refine aa ?_;refine ag rfl rfl ?_ rfl ?_ <;> intro h
  ·have hq: ¬ 4294967296≤q:=by have:=oF h;omega
   have hb1:q * Y0≤4294967295 * 4294967295:=e₇ om om;have m1:=aU.mk (show IntKind.u64.wrap ((q:Int) * (Y0:Int))=((q * Y0:Nat):Int) by rw [← a₈];exact bM _ om om);refine aa ?_;refine ad rfl ?_ ?_ <;> intro h
   ·have hc:=ot h;rw [if_pos (.inr om)] at i4;have hq1:1≤q:=by
     cases q with
     | zero=>rw [c₉] at hc;omega
     | succ q=>omega
    refine aa ?_;refine ad rfl ?_ ?_ <;> intro h
    ·have hb:=ot h;rw [if_pos om] at i4;rw [← i4];refine aa ?_;refine hj.nrm () trivial ?_;rw [show ((q:Int) - 1)=((q - 1:Nat):Int) by omega];exact(vm [] [])
    ·have hb:=oF h;rw [if_neg om] at i4;refine aa ?_;refine⟨(f',q - 1,r + Y1),⟨?_,dm,dm,i4,dm⟩,by show f' < f' + 1;omega,?_⟩
     ·dsimp only;rw [e₄,d₃];have:Y1≤q * Y1:=b₃ _ hq1;omega
     ·dsimp only;rw [show ((q - 1:Nat):Int)=(q:Int) - 1 by omega,show ((r + Y1:Nat):Int)=(r:Int) + Y1 by omega];exact(vm [] [])
   ·have hc:=oF h;rw [if_neg (fun h=>h.elim (fun h=>hq h) (fun h=>by omega))] at i4;rw [← i4];refine aa ?_;refine hj.nrm () trivial ?_;exact(vm [] [])
  ·have hq:4294967296≤q:=by have:=ot (by simpa using h:decide _=true);omega
   rw [if_pos (.inl hq)] at i4;refine aa ?_;refine ad rfl ?_ ?_ <;> intro h
   ·have hb:=ot h;rw [if_pos om] at i4;rw [← i4];refine aa ?_;refine hj.nrm () trivial ?_;rw [show ((q:Int) - 1)=((q - 1:Nat):Int) by omega];exact(vm [] [])
   ·have hb:=oF h;rw [if_neg om] at i4;refine aa ?_;refine⟨(f',q - 1,r + Y1),⟨?_,dm,dm,i4,dm⟩,by show f' < f' + 1;omega,?_⟩
    ·dsimp only;rw [e₄,d₃];have:Y1≤q * Y1:=b₃ _ om;omega
    ·dsimp only;rw [show ((q - 1:Nat):Int)=(q:Int) - 1 by omega,show ((r + Y1:Nat):Int)=(r:Int) + Y1 by omega];exact(vm [] [])
 refine aa ?_;refine pj Unit (fun _=> [(18, .int .u64 (E:Nat)),(15, .int .u64 (D:Nat)),(17, .int .u64 (R1:Nat)),(2, .int .u64 (Y:Nat)),(9, .int .u64 (Y1:Nat)),(10, .int .u64 (Y0:Nat)),(14, .int .u64 (U0:Nat)),(8, .int .u64 (s:Nat))]) (fun _=> []) (fun _=>0) (fun _=>True) (fun JQ hj=>?_) (fun _ _=>?_)
 ·refine av (Nat×Nat×Nat) (fun x=> [(18, .int .u64 (x.2.1:Nat)),(16, .int .u64 (x.2.2:Nat)),(15, .int .u64 (D:Nat)),(17, .int .u64 (R1:Nat)),(2, .int .u64 (Y:Nat)),(9, .int .u64 (Y1:Nat)),(10, .int .u64 (Y0:Nat)),(14, .int .u64 (U0:Nat)),(8, .int .u64 (s:Nat))]) (fun _=> []) 0 (fun x=>x.2.1 * Y1 + x.2.2=R1∧x.2.2 < 4294967296∧4294967296≤x.2.2 + x.1 * Y1∧LK Y1 Y0 U0 x.1 x.2.1 x.2.2=E∧x.2.1 < 17179869184) (fun x=>x.1) (2,R1 / Y1,R1 % Y1) ⟨by dsimp only;rw [a₃];exact a₁ _ _,by dsimp only;exact d₇ (b₂ _ om) om,dm,hE,hqE⟩ (by dsimp only;exact(vm [] [])) ?_;rintro⟨f,q,r⟩ ⟨i1,i2,i3,i4,i5⟩;try dsimp only
  dsimp only at i1 i2 i3 i4 i5;obtain⟨f',rfl⟩: ∃f',f=f' + 1:=by
   cases f with
   | zero=>rw [c₉] at i3;omega
   | succ f=>exact ⟨f,rfl⟩
  rw [LK] at i4;rw [c₇] at i3;refine aa ?_;refine ag rfl rfl ?_ rfl ?_ <;> intro h
  ·have hq: ¬ 4294967296≤q:=by have:=oF h;omega
   have hb1:q * Y0≤4294967295 * 4294967295:=e₇ om om;have m1:=aU.mk (show IntKind.u64.wrap ((q:Int) * (Y0:Int))=((q * Y0:Nat):Int) by rw [← a₈];exact bM _ om om);refine aa ?_;refine ad rfl ?_ ?_ <;> intro h
   ·have hc:=ot h;rw [if_pos (.inr om)] at i4;have hq1:1≤q:=by
     cases q with
     | zero=>rw [c₉] at hc;omega
     | succ q=>omega
    refine aa ?_;refine ad rfl ?_ ?_ <;> intro h
    ·have hb:=ot h;rw [if_pos om] at i4;rw [← i4];refine aa ?_;refine hj.nrm () trivial ?_;rw [show ((q:Int) - 1)=((q - 1:Nat):Int) by omega];exact(vm [] [])
    ·have hb:=oF h;rw [if_neg om] at i4;refine aa ?_;refine⟨(f',q - 1,r + Y1),⟨?_,dm,dm,i4,dm⟩,by show f' < f' + 1;omega,?_⟩
     ·dsimp only;rw [e₄,d₃];have:Y1≤q * Y1:=b₃ _ hq1;omega
     ·dsimp only;rw [show ((q - 1:Nat):Int)=(q:Int) - 1 by omega,show ((r + Y1:Nat):Int)=(r:Int) + Y1 by omega];exact(vm [] [])
   ·have hc:=oF h;rw [if_neg (fun h=>h.elim (fun h=>hq h) (fun h=>by omega))] at i4;rw [← i4];refine aa ?_;refine hj.nrm () trivial ?_;exact(vm [] [])
  ·have hq:4294967296≤q:=by have:=ot (by simpa using h:decide _=true);omega
   rw [if_pos (.inl hq)] at i4;refine aa ?_;refine ad rfl ?_ ?_ <;> intro h
   ·have hb:=ot h;rw [if_pos om] at i4;rw [← i4];refine aa ?_;refine hj.nrm () trivial ?_;rw [show ((q:Int) - 1)=((q - 1:Nat):Int) by omega];exact(vm [] [])
   ·have hb:=oF h;rw [if_neg om] at i4;refine aa ?_;refine⟨(f',q - 1,r + Y1),⟨?_,dm,dm,i4,dm⟩,by show f' < f' + 1;omega,?_⟩
    ·dsimp only;rw [e₄,d₃];have:Y1≤q * Y1:=b₃ _ om;omega
    ·dsimp only;rw [show ((q - 1:Nat):Int)=(q:Int) - 1 by omega,show ((r + Y1:Nat):Int)=(r:Int) + Y1 by omega];exact(vm [] [])
 refine aa ?_;refine au ?_;rw [hdr];exact rfl
end
section
variable {G:GS}
attribute [local irreducible] ak aB aD aI aN vC aW aw
theorem yg (a b c:Nat):eS a b c=eS b a c:=by unfold eS;rw [a₃]
theorem Fw (a b c:Nat) (ha:bo a) (hb:bo b) (hc:bo c):aE Tryz.prog G 138 [.int .u64 a, .int .u64 b, .int .u64 c] (.tup [.int .u64 (eS a b c).1, .bool (eS a b c).2]):=by
 have c1:=Dy (G:=G) a b ha hb;have hN:=a₁ (a * b) 18446744073709551616;have hlow:a * b % 18446744073709551616 < 18446744073709551616:=b₂ _ (by decide);unfold eS;obtain⟨hi,hhi⟩: ∃x,x=a * b / 18446744073709551616:=⟨_,rfl⟩
 obtain⟨lo,hlo⟩: ∃x,x=a * b % 18446744073709551616:=⟨_,rfl⟩
 rw [← hhi,← hlo] at c1;rw [← hhi,← hlo,a₃] at hN;rw [← hlo] at hlow;rw [← hhi,← hN];clear hhi hlo hN;by_cases h0:c=0∨c≤hi
 ·rw [if_pos h0];have hle:c≤hi:=om;refine bA seat Tryz.func138 29 ?_;refine aa ?_;refine dL (c1) ?_;refine ad rfl ?_ ?_ <;> intro h
  ·refine aa ?_;refine au ?_;rfl
  ·exact absurd (oF h) om
 ·rw [if_neg h0];have hlt:hi < c:=om;have c2:=KW (G:=G) hi lo c hlow hc hlt;obtain⟨Q,hQ⟩: ∃x,x=(hi * 18446744073709551616 + lo) / c:=⟨_,rfl⟩
  rw [← hQ] at c2 ⊢;obtain⟨R,hR⟩: ∃x,x=(hi * 18446744073709551616 + lo) % c:=⟨_,rfl⟩
  rw [← hR] at c2;clear hQ hR;refine bA seat Tryz.func138 29 ?_;refine aa ?_;refine dL (c1) ?_;refine ad rfl ?_ ?_ <;> intro h
  ·exact absurd (ot h) om
  ·refine aa ?_;refine dL (c2) ?_;refine au ?_;rfl
theorem KX (fee gas:Nat) (h1:bo fee) (h2:bo gas):aE Tryz.prog G 88 [.int .u64 fee, .int .u64 gas] (.int .u64 (pO fee gas)):=by
 have c1:=Fw (G:=G) 1000 fee gas (by unfold bo;omega) h1 h2;rw [yg] at c1;unfold pO;generalize eS fee 1000 gas=p at *;obtain⟨v,b⟩:=p;dsimp only at c1 ⊢;by_cases hg:gas=0
 ·subst hg;rw [if_pos rfl];refine bA seat Tryz.func88 18 ?_;refine aa ?_;(iterate 6 ((all_goals(refine aa ?_));(all_goals(first | (refine ah rfl aA rfl (src (c1)) rfl rfl ?_) | ((first | refine ag rfl rfl ?_ rfl ?_ | refine ad rfl ?_ ?_);all_goals(intro h;(try simp only [pl] at h);(try (exfalso;omega)))) | skip))));all_goals(refine au ?_)
  all_goals rfl
 ·rw [if_neg hg];cases b with
  | true=>
   rw [if_pos rfl];refine bA seat Tryz.func88 18 ?_;refine aa ?_;(iterate 6 ((all_goals(refine aa ?_));(all_goals(first | (refine ah rfl aA rfl (src (c1)) rfl rfl ?_) | ((first | refine ag rfl rfl ?_ rfl ?_ | refine ad rfl ?_ ?_);all_goals(intro h;(try simp only [pl] at h);(try (exfalso;omega)))) | skip))));all_goals(refine au ?_)
   all_goals rfl
  | false=>
   rw [if_neg sm];refine bA seat Tryz.func88 18 ?_;refine aa ?_;(iterate 6 ((all_goals(refine aa ?_));(all_goals(first | (refine ah rfl aA rfl (src (c1)) rfl rfl ?_) | ((first | refine ag rfl rfl ?_ rfl ?_ | refine ad rfl ?_ ?_);all_goals(intro h;(try simp only [pl] at h);(try (exfalso;omega)))) | skip))));all_goals(refine au ?_)
   all_goals rfl
theorem KY (a b:Nat) (ha:bo a) (hb:bo b):aE Tryz.prog G 135 [.int .u64 a, .int .u64 b] (.tup [.int .u64 (kx a b).1, .bool (kx a b).2]):=by
 have c1:=MZ (G:=G) a b ha hb;generalize kx a b=p at *;obtain⟨v,b⟩:=p;dsimp only at c1 ⊢;refine bA seat Tryz.func135 11 ?_;refine aa ?_;(iterate 6 ((all_goals(refine aa ?_));(all_goals(first | (refine ah rfl aA rfl (src (c1)) rfl rfl ?_) | ((first | refine ag rfl rfl ?_ rfl ?_ | refine ad rfl ?_ ?_);all_goals(intro h;(try simp only [pl] at h);(try (exfalso;omega)))) | skip))));all_goals(refine au ?_)
 all_goals rfl
theorem KZ (x y:Int) (hx: -9223372036854775808≤x∧x < 9223372036854775808) (hy: -9223372036854775808≤y∧y < 9223372036854775808):aE Tryz.prog G 134 [.int .i64 x, .int .i64 y] (.int .u64 (mz x y)):=by
 have c1:=IS (G:=G) x hx;have c2:=IS (G:=G) y hy;have l1:limS x≤1073741824:=by unfold limS;omega
 have l2:limS y≤1073741824:=by unfold limS;omega
 unfold mz;generalize limS x=u at *;generalize limS y=v at *;refine bA seat Tryz.func134 13 ?_;refine aa ?_;(iterate 4 ((all_goals(refine aa ?_));(all_goals(first | (refine ah rfl aA rfl (src (c1)) rfl rfl ?_) | (refine ah rfl aA rfl (src (c2)) rfl rfl ?_) | ((first | refine ag rfl rfl ?_ rfl ?_ | refine ad rfl ?_ ?_);all_goals(intro h;(try simp only [pl] at h);(try (exfalso;omega)))) | skip))));all_goals(refine au ?_)
 refine congrArg (MV.int .u64) ?_;omega
theorem DB (t:je) (ht:iL t):aE Tryz.prog G 136 [nP t] (.tup [.int .u64 (eW t).1, .bool (eW t).2]):=by
 obtain⟨snd,seq,gas,fee,memo,trs⟩:=t;obtain⟨h1,h2,h3,h4,h5,h6,h7⟩:=ht;dsimp only at h1 h2 h3 h4 h5 h6 h7;have cs:=Cj (G:=G) (fee :: trs.map (·.amt)) (by simp;omega) (by
  intro a ha;rcases a₂.1 ha with rfl | ha
  ·exact h4
  ·obtain⟨x,hx,rfl⟩:=List.mem_map.1 ha;exact(h7 x hx).2)
 unfold eW;dsimp only;generalize sumG (fee :: trs.map (·.amt)) 0=p at *;obtain⟨v,b⟩:=p;dsimp only at cs ⊢;unfold nP;dsimp only;have hzl:(fee :: trs.map (·.amt)).length=trs.length + 1:=sm;refine bA seat Tryz.func136 27 ?_;refine aa ?_;refine av Nat (fun k=> [(13, .int .i64 k),(12, .int .i64 trs.length),(11, .sl trs.length (trs.map lC)),(4, .ms 0 1 0 (k + 1))]) (fun k=> [(0,⟨23,1,true,0,fq (fee :: (trs.take k).map (·.amt))⟩)]) 1 (fun k=>k≤trs.length) (fun k=>trs.length - k) 0 (b₀ _) (by rw [g₇];exact(vm [(0,_)] [])) ?_;intro k hk;try dsimp only
 refine aa ?_;refine ad rfl ?_ ?_ <;> intro h
 ·have hk':k < trs.length:=by have:=ot h;omega
  have hel:=ll hk';have hsucc:=wq fee trs hk';have hll:(fq (fee :: (trs.take k).map (·.amt))).length=k + 1:=by simp [fq];omega
  generalize trs[k] =x at *;obtain⟨to_,amt⟩:=x;dsimp only at hsucc;replace hel:bF (trs.map lC) trs.length (k:Int)=some (.st [.str to_, .int .u64 amt]):=hel;have hel:=aj.mk hel;refine aa ?_;refine aL rfl rfl (by intro R hR;refine cI hR ?_;(refine c₀ (a₆ _) ?_;refine⟨_,rfl,?_⟩;refine c₀ ⟨hll,ai (by kernel_rfl) pf⟩ ?_;refine⟨fq (fee :: (trs.take (k + 1)).map (·.amt)),sv (by rw [hsucc];rfl),k + 1 + 1,sv pf,?_⟩);exact hR) rfl ?_;refine aa ?_;exact⟨k + 1,by show k + 1≤trs.length;omega,by show trs.length - (k + 1) < trs.length - k;omega,(by dsimp only;exact(vm [(0,_)] []))⟩
 ·have hk':k=trs.length:=by have:=oF h;omega
  subst hk';rw [f₈];generalize fee :: trs.map (·.amt)=Z at *;rw [← hzl];refine aa ?_;refine bX rfl aA rfl (du cs) rfl [(0,Z.length)] ⟨(by show Z.length≤(fq Z).length;simp [fq]),trivial⟩ lm ?_;refine aa ?_;refine au ?_;rfl
end
section
variable {G:GS}
attribute [local irreducible] ak aB aD aI aN vC aW aw
theorem AF: ∀(l:List bf) (s:Nat),sumG (l.map (·.bal)) s=totS l s
 | [],_=>rfl
 | a :: r,s=>by
  rw [c₃,sumG,totS,AF r]
theorem AG (l:List bf) {c:Nat} (hc:bo c):sumG (c :: l.map (·.bal)) 0=totS l c:=by
 unfold bo at hc;rw [sumG,show iM 0 c=(c,true) by unfold iM;rw [if_pos om,b₆],if_pos rfl,AF]
theorem uT (f:Nat) (l:List bf) {k:Nat} (hk:k < l.length):fq (f :: (l.take (k + 1)).map (·.bal))=fq (f :: (l.take k).map (·.bal)) ++ [.int .u64 (l[k].bal:Int)] :=by
 rw [List.take_succ_eq_append_getElem hk,e₁,← List.cons_append];unfold fq;rw [e₁];rfl
theorem qf: ∀(x y:List UInt8),Op.bytesLess x y=decide (x < y)
 | [],[] =>by simp [Op.bytesLess]
 | _ :: _,[] =>by simp [Op.bytesLess]
 | [],_ :: _=>by simp [Op.bytesLess]
 | a :: x,b :: y=>by
  rw [Op.bytesLess,qf x y]
  simp only [List.cons_lt_cons_iff]
  by_cases h1:a < b <;> by_cases h2:a=b <;> by_cases h3:x < y <;> simp [h1,h2,h3]
theorem less_irr (x:List UInt8):Op.bytesLess x x=false:=by rw [qf];simp [List.lt_irrefl]
theorem hO {x y z:List UInt8} (h:Op.bytesLess x y=true) (k:Op.bytesLess y z=true):Op.bytesLess x z=true:=by
 rw [qf,decide_eq_true_eq] at h k ⊢;exact List.lt_trans h k
theorem Fy {x y:List UInt8} (h:Op.bytesLess x y=true):Op.bytesLess y x=false:=by
 cases hk:Op.bytesLess y x with
 | false=>rfl
 | true=>have:=hO h hk;rw [less_irr] at this;cases this
theorem uU {x y:List UInt8} (h:Op.bytesLess x y=false) (hne:x≠y):Op.bytesLess y x=true:=by
 rw [qf,decide_eq_false_iff_not,List.not_lt] at h;rw [qf,decide_eq_true_eq];exact Std.lt_of_le_of_ne h (Ne.symm hne)
theorem IW (l:List bf) (col:Nat) (hc:bo col) (hl:l.length≤100000) (hs: ∀a∈l,bo a.bal):aE Tryz.prog G 74 [.st [.sl l.length (l.map aT), .int .u64 col]] (.tup [.int .u64 (totS l col).1, .bool (totS l col).2]):=by
 have cs:=Cj (G:=G) (col :: l.map (·.bal)) (by simp;omega) (by
  intro a ha;rcases a₂.1 ha with rfl | ha
  ·exact hc
  ·obtain⟨x,hx,rfl⟩:=List.mem_map.1 ha;exact hs x hx)
 rw [AG l hc] at cs;generalize totS l col=p at *;obtain⟨v,b⟩:=p;dsimp only at cs ⊢;have hzl:(col :: l.map (·.bal)).length=l.length + 1:=sm;refine bA seat Tryz.func74 27 ?_;refine aa ?_;refine av Nat (fun k=> [(13, .int .i64 k),(12, .int .i64 l.length),(11, .sl l.length (l.map aT)),(4, .ms 0 1 0 (k + 1))]) (fun k=> [(0,⟨23,1,true,0,fq (col :: (l.take k).map (·.bal))⟩)]) 1 (fun k=>k≤l.length) (fun k=>l.length - k) 0 (b₀ _) (by rw [g₇];exact(vm [(0,_)] [])) ?_;intro k hk;try dsimp only
 refine aa ?_;refine ad rfl ?_ ?_ <;> intro h
 ·have hk':k < l.length:=by have:=ot h;omega
  have hel:=eZ hk';have hsucc:=uT col l hk';have hll:(fq (col :: (l.take k).map (·.bal))).length=k + 1:=by simp [fq];omega
  generalize l[k] =x at *;obtain⟨nm,bal,seq⟩:=x;dsimp only at hsucc;replace hel:bF (l.map aT) l.length (k:Int)=some (.st [.str nm, .int .u64 bal, .int .u64 seq]):=hel;have hel:=aj.mk hel;refine aa ?_;refine aL rfl rfl (by intro R hR;refine cI hR ?_;(refine c₀ (a₆ _) ?_;refine⟨_,rfl,?_⟩;refine c₀ ⟨hll,ai (by kernel_rfl) pf⟩ ?_;refine⟨fq (col :: (l.take (k + 1)).map (·.bal)),sv (by rw [hsucc];rfl),k + 1 + 1,sv pf,?_⟩);exact hR) rfl ?_;refine aa ?_;exact⟨k + 1,by show k + 1≤l.length;omega,by show l.length - (k + 1) < l.length - k;omega,(by dsimp only;exact(vm [(0,_)] []))⟩
 ·have hk':k=l.length:=by have:=oF h;omega
  subst hk';rw [f₈];generalize col :: l.map (·.bal)=Z at *;rw [← hzl];refine aa ?_;refine bX rfl aA rfl (du cs) rfl [(0,Z.length)] ⟨(by show Z.length≤(fq Z).length;simp [fq]),trivial⟩ lm ?_;refine aa ?_;refine au ?_;rfl
theorem DD (s:List UInt8):aE Tryz.prog G 126 [.str s] (.bool false):=by
 have e1:=aU.mk (show(!(s == s))=false by simp);refine bA seat Tryz.func126 6 ?_;refine He ?_;refine au ?_;try simp
 try rfl
def jy (a b:List UInt8):Int:=if Op.bytesLess a b=true then -1 else if (!(Op.bytesLess a b || a == b))=true then 1 else 0
theorem FA (a b:List UInt8):aE Tryz.prog G 77 [.str a, .str b] (.int .i64 (jy a b)):=by
 have c1:=DD (G:=G) a;have c2:=DD (G:=G) b;unfold jy;by_cases h1:Op.bytesLess a b=true
 ·rw [if_pos h1];refine bA seat Tryz.func77 20 ?_;refine aa ?_;refine dL (c1) ?_;refine dL (c2) ?_;refine ad rfl ?_ ?_ <;> intro h
  ·refine aa ?_;refine au ?_;rfl
  ·exact absurd h1 (by rw [h];simp)
 ·rw [if_neg h1];by_cases h2:(!(Op.bytesLess a b || a == b))=true
  ·rw [if_pos h2];refine bA seat Tryz.func77 20 ?_;refine aa ?_;refine dL (c1) ?_;refine dL (c2) ?_;refine ad rfl ?_ ?_ <;> intro h
   ·exact absurd h h1
   refine aa ?_;refine ad rfl ?_ ?_ <;> intro h
   ·refine aa ?_;refine au ?_;rfl
   ·exact absurd h2 (by rw [h];simp)
  ·rw [if_neg h2];refine bA seat Tryz.func77 20 ?_;refine aa ?_;refine dL (c1) ?_;refine dL (c2) ?_;refine ad rfl ?_ ?_ <;> intro h
   ·exact absurd h h1
   refine aa ?_;refine ad rfl ?_ ?_ <;> intro h
   ·exact absurd h h2
   ·refine aa ?_;refine au ?_;rfl
theorem yh (a b:List UInt8):jy a b < 0↔Op.bytesLess a b=true:=by
 unfold jy;split
 ·rename_i h;simp [h]
 ·rename_i h;split <;> simp [h]
theorem Nb {a b:List UInt8} (h:jy a b=0):a=b:=by
 unfold jy at h;split at h
 ·exact absurd h (by decide)
 ·rename_i h1;split at h
  ·exact absurd h (by decide)
  ·rename_i h2;simpa [h1] using h2
theorem cmpN_self (a:List UInt8):jy a a=0:=by
 unfold jy;simp [less_irr]
theorem qg (a:bf) (s:List UInt8):aE Tryz.prog G 195 [aT a, .str s] (.int .i64 (jy a.name s)):=by
 have c1:=FA (G:=G) a.name s;unfold aT;refine bA seat Tryz.func195 9 ?_;refine aa ?_;refine dL (c1) ?_;refine au ?_;rfl
theorem FB (L:dK) (hL:eN L):aE Tryz.prog G 85 [eh L] (.int .i64 (fR L)):=by
 obtain⟨l,col⟩:=L;obtain⟨hl,hcol,hsm⟩:=hL;dsimp only at hl hcol hsm;have ct:=IW (G:=G) l col hcol om (fun a ha=>(hsm a ha).2.1);generalize hQ:fR ⟨l,col⟩=Q;unfold fR at hQ;dsimp only at hQ;unfold eh;dsimp only;by_cases hn:256 < l.length
 ·rw [if_pos hn] at hQ;subst hQ;refine bA seat Tryz.func85 62 ?_;refine aa ?_;(iterate 6 ((all_goals(refine aa ?_));(all_goals(first | ((first | refine ag rfl rfl ?_ rfl ?_ | refine ad rfl ?_ ?_);all_goals(intro h;(try simp only [pl] at h);(try (exfalso;omega)))) | skip))));all_goals(refine au ?_)
  all_goals rfl
 rw [if_neg hn] at hQ;generalize hv:BS none l=v at *;generalize totS l col=p at *;obtain⟨tot,ok⟩:=p;dsimp only at ct hQ;refine bA seat Tryz.func85 62 ?_;refine aa ?_;(iterate 3 ((all_goals(refine aa ?_));(all_goals(first | ((first | refine ag rfl rfl ?_ rfl ?_ | refine ad rfl ?_ ?_);all_goals(intro h;(try simp only [pl] at h);(try (exfalso;omega)))) | skip))));refine av Nat (fun k=> [(14, .int .i64 k),(13, .int .i64 l.length),(12, .sl l.length (l.map aT)),(1, .ptr 0 2 0 0 [])]) (fun _=> [(0,⟨33,2,false,0,[.st [.sl l.length (l.map aT), .int .u64 col]]⟩)]) 1 (fun k=>k≤l.length∧BS (lD l k) (l.drop k)=v) (fun k=>l.length - k) 0 ⟨b₀ _,by rw [g₆];exact hv⟩ (vm [(0,_)] []) ?_;clear hv;rintro k ⟨hk,hR⟩;try dsimp only
 refine aa ?_;refine ad rfl ?_ ?_ <;> intro h
 ·have hk':k < l.length:=by have:=ot h;omega
  have hel:=eZ hk';have hpn:lD l (k + 1)=some l[k].name:=by show(l[k]?).map _=_;simp [hk']
  have c1:=sF (G:=G) l[k].name (by have:=(hsm _ (c₄ hk')).1;omega);rw [b₈ hk',pP] at hR;rw [← hpn] at hR;have hnmk:lD l (k + 1)=some l[k].name:=hpn;rw [hnmk] at hR;generalize hak:l[k] =a at *;obtain⟨nm,bal,seq⟩:=a;replace hel:bF (l.map aT) l.length (k:Int)=some (.st [.str nm, .int .u64 bal, .int .u64 seq]):=hel;have hel:=aj.mk hel;dsimp only at hR c1;by_cases hnm:dS nm=false
  ·rw [hnm] at c1;rw [if_pos hnm] at hR;subst hR;rw [if_pos om] at hQ;subst hQ;refine aa ?_;(iterate 6 ((all_goals(refine aa ?_));(all_goals(first | (refine ah rfl aA rfl (src (c1)) rfl rfl ?_) | ((first | refine ag rfl rfl ?_ rfl ?_ | refine ad rfl ?_ ?_);all_goals(intro h;(try simp only [pl] at h);(try (exfalso;omega)))) | skip))));all_goals(refine au ?_)
   all_goals rfl
  rw [if_neg hnm] at hR;have hnm:dS nm=true:=by simpa using hnm
  rw [hnm] at c1;cases k with
  | zero=>
   dsimp only [lD] at hR;have hR:BS (lD l (0 + 1)) (l.drop (0 + 1))=v:=by rw [hnmk];exact hR
   refine aa ?_;(iterate 3 ((all_goals(refine aa ?_));(all_goals(first | (refine ah rfl aA rfl (src (c1)) rfl rfl ?_) | ((first | refine ag rfl rfl ?_ rfl ?_ | refine ad rfl ?_ ?_);all_goals(intro h;(try simp only [pl] at h);(try (exfalso;omega)))) | skip))));refine al [ae 0,ae 1,ae 2,ae 3,ae 4,ae 5,ae 6,ae 7,ae 8,ae 9,ae 10,ae 11,ae 12,ae 13,ae 14] ?_;refine aa ?_;refine al [ae 0,ae 1,ae 2,ae 3,ae 4,ae 5,ae 6,ae 7,ae 8,ae 9,ae 10,ae 11,ae 12,ae 13,ae 14] ?_;refine aa ?_;exact⟨0 + 1,⟨by show 0 + 1≤l.length;omega,hR⟩,by show l.length - (0 + 1) < l.length - 0;omega,(by dsimp only;exact(vm [(0,_)] []))⟩
  | succ j=>
   have hj:j < l.length:=om;have hep:=eZ hj;have hpj:lD l (j + 1)=some l[j].name:=by show(l[j]?).map _=_;simp [hj]
   rw [hpj] at hR;generalize l[j] =b at *;obtain⟨nb,bb,sb⟩:=b;replace hep:bF (l.map aT) l.length (((j + 1:Nat):Int) - 1)=some (.st [.str nb, .int .u64 bb, .int .u64 sb]):=by rw [show ((j + 1:Nat):Int) - 1=(j:Int) by omega];exact hep
   have hep:=aj.mk hep;dsimp only at hR;refine aa ?_;(iterate 3 ((all_goals(refine aa ?_));(all_goals(first | (refine ah rfl aA rfl (src (c1)) rfl rfl ?_) | ((first | refine ag rfl rfl ?_ rfl ?_ | refine ad rfl ?_ ?_);all_goals(intro h;(try simp only [pl] at h);(try (exfalso;omega)))) | skip))));refine al [ae 0,ae 1,ae 2,ae 3,ae 4,ae 5,ae 6,ae 7,ae 8,ae 9,ae 10,ae 11,ae 12,ae 13,ae 14] ?_;refine aa ?_;refine eP rfl rfl ?_ rfl ?_ <;> intro h
   rotate_left
   ·exact absurd (oF h) om
   by_cases hd:nb=nm
   ·subst hd;rw [if_pos rfl] at hR;subst hR;rw [if_pos om] at hQ;subst hQ;refine He ?_;(iterate 4 ((all_goals(refine aa ?_));(all_goals(first | ((first | refine ag rfl rfl ?_ rfl ?_ | refine ad rfl ?_ ?_);all_goals(intro h;(try simp only [pl] at h);(try (exfalso;omega)))) | skip))));all_goals(refine au ?_)
    all_goals rfl
   rw [if_neg hd] at hR;refine aa ?_;refine ad rfl ?_ ?_ <;> intro h
   ·exact absurd (eq_of_beq h) hd
   refine aa ?_;refine al [ae 0,ae 1,ae 2,ae 3,ae 4,ae 5,ae 6,ae 7,ae 8,ae 9,ae 10,ae 11,ae 12,ae 13,ae 14] ?_;refine aa ?_;refine eP rfl rfl ?_ rfl ?_ <;> intro h
   rotate_left
   ·exact absurd (oF h) om
   refine aa ?_;refine ad rfl ?_ ?_ <;> intro h
   ·rw [if_pos h] at hR;subst hR;rw [if_pos om] at hQ;subst hQ;refine aa ?_;refine au ?_;rfl
   ·rw [if_neg (by rw [h];simp)] at hR;refine aa ?_;exact⟨j + 1 + 1,⟨by show j + 1 + 1≤l.length;omega,by rw [hnmk];exact hR⟩,by show l.length - (j + 1 + 1) < l.length - (j + 1);omega,(by dsimp only;exact(vm [(0,_)] []))⟩
 ·have hk':k=l.length:=by have:=oF h;omega
  subst hk';rw [f₆,C7] at hR;subst hR;rw [if_neg sm] at hQ;cases ok with
  | true=>
   rw [if_neg sm] at hQ;subst hQ;refine aa ?_;(iterate 6 ((all_goals(refine aa ?_));(all_goals(first | (refine ah rfl aA rfl (src (ct)) rfl rfl ?_) | ((first | refine ag rfl rfl ?_ rfl ?_ | refine ad rfl ?_ ?_);all_goals(intro h;(try simp only [pl] at h);(try (exfalso;omega)))) | skip))));all_goals(refine au ?_)
   all_goals rfl
  | false=>
   rw [if_pos rfl] at hQ;subst hQ;refine aa ?_;(iterate 6 ((all_goals(refine aa ?_));(all_goals(first | (refine ah rfl aA rfl (src (ct)) rfl rfl ?_) | ((first | refine ag rfl rfl ?_ rfl ?_ | refine ad rfl ?_ ?_);all_goals(intro h;(try simp only [pl] at h);(try (exfalso;omega)))) | skip))));all_goals(refine au ?_)
   all_goals rfl
end
section
def ei (l:List bf):Prop:=l.Pairwise fun a b=>Op.bytesLess a.name b.name=true
def posA (nm:List UInt8) (l:List bf):Nat:=(l.takeWhile fun a=>Op.bytesLess a.name nm).length
theorem posA_cons (nm:List UInt8) (a:bf) (r:List bf):posA nm (a :: r)=if Op.bytesLess a.name nm=true then posA nm r + 1 else 0:=by
 unfold posA;rw [List.takeWhile_cons];split <;> simp [*]
theorem lz (nm:List UInt8): ∀l,posA nm l≤l.length
 | [] =>a₆ _
 | a :: r=>by
  rw [posA_cons]
  have:=lz nm r
  split
  ·simp;omega
  ·exact b₀ _
theorem qh {nm:List UInt8}: ∀{l:List bf},ei l→∀{k:Nat} (hk:k < l.length),Op.bytesLess l[k].name nm=true↔k < posA nm l
 | [],_,_,hk=>absurd hk (e₂ _)
 | a :: r,hs,k,hk=>by
  have hs':=a₀.1 hs
  rw [posA_cons]
  cases k with
  | zero=>
   rw [List.getElem_cons_zero]
   split
   ·rename_i h;simp [h]
   ·rename_i h;simp [h]
  | succ k=>
   rw [List.getElem_cons_succ]
   have hk':k < r.length:=by simpa using hk
   have ih:=qh (nm:=nm) hs'.2 hk'
   split
   ·rw [ih];omega
   ·rename_i h
    refine⟨fun h2=>absurd (hO (hs'.1 _ (c₄ hk')) h2) h,fun h2=>absurd h2 (e₂ _)⟩
theorem eM {nm:List UInt8}: ∀{l:List bf},ei l→((bz l nm).2=true∧l[posA nm l]? =some (bz l nm).1∧(bz l nm).1.name=nm)∨((bz l nm).2=false∧∀a∈l,a.name≠nm)
 | [],_=> .inr ⟨rfl,sm⟩
 | a :: r,hs=>by
  have hs':=a₀.1 hs
  by_cases h:a.name=nm
  ·have e:bz (a :: r) nm=(a,true):=by unfold bz;rw [e₅ (by simp [h])]
   rw [e,posA_cons,h,less_irr]
   exact .inl ⟨rfl,rfl,by first | rfl | exact h⟩
  ·have e:bz (a :: r) nm=bz r nm:=by unfold bz;rw [b₄ (by simp [h])]
   rw [e,posA_cons]
   rcases eM (nm:=nm) hs'.2 with ⟨h1,h2,h3⟩ | ⟨h1,h2⟩
   ·have hlt:Op.bytesLess a.name nm=true:=by
     have:=hs'.1 _ (d₀ h2)
     rwa [h3] at this
    rw [if_pos hlt]
    exact .inl ⟨h1,by rw [List.getElem?_cons_succ];exact h2,h3⟩
   ·exact .inr ⟨h1,fun x hx=>(a₂.1 hx).elim (fun e=>e▸h) (h2 x)⟩
theorem DE {nm:List UInt8} {l:List bf} (hs:ei l) (hk:posA nm l < l.length):(jy l[posA nm l].name nm == 0)=(bz l nm).2:=by
 rcases eM (nm:=nm) hs with ⟨h1,h2,h3⟩ | ⟨h1,h2⟩
 ·rw [b₁ hk] at h2;simp only [Option.some.injEq] at h2;rw [h2,h3,cmpN_self,h1];rfl
 ·rw [h1,beq_eq_false_iff_ne];exact fun h=>h2 _ (c₄ hk) (Nb h)
theorem DF {nm:List UInt8} {l:List bf} (hs:ei l) (hk: ¬ posA nm l < l.length):(bz l nm).2=false:=by
 rcases eM (nm:=nm) hs with ⟨h1,h2,h3⟩ | ⟨h1,h2⟩
 ·rw [List.getElem?_eq_none (Nat.le_of_not_lt hk)] at h2;cases h2
 ·exact h1
theorem qi {nm:List UInt8}: ∀{l:List bf} {i:Nat},(∀a∈l,a.name≠nm)→fG nm l i= -1
 | [],_,_=>rfl
 | a :: r,i,h=>by rw [fG,if_neg (h a (a₇ ..))];exact qi fun x hx=>h x (b₇ _ hx)
theorem rz {nm:List UInt8}: ∀{l:List bf} {i:Nat},ei l→(bz l nm).2=true→fG nm l i=((i + posA nm l:Nat):Int)
 | [],_,_,h=>by cases h
 | a :: r,i,hs,h=>by
  have hs':=a₀.1 hs
  rw [fG,posA_cons]
  by_cases e:a.name=nm
  ·rw [if_pos e,e,less_irr];rfl
  ·have e2:bz (a :: r) nm=bz r nm:=by unfold bz;rw [b₄ (by simp [e])]
   rw [e2] at h
   have hlt:Op.bytesLess a.name nm=true:=by
    rcases eM (nm:=nm) hs'.2 with ⟨_,h2,h3⟩ | ⟨h1,_⟩
    ·have:=hs'.1 _ (d₀ h2)
     rwa [h3] at this
    ·rw [h1] at h;cases h
   rw [if_neg e,if_pos hlt,rz (nm:=nm) hs'.2 h]
   congr 1
   omega
theorem mN {a:bf} {l:List bf} (hs:ei l) (h:(bz l a.name).2=true):fH a l=l.set (posA a.name l) a:=by
 unfold fH;rw [rz hs h,b₆,if_pos om];rfl
theorem qj {a:bf} {l:List bf} (hs:ei l) (h:(bz l a.name).2=false):fH a l=l.take (posA a.name l) ++ a :: l.drop (posA a.name l):=by
 unfold fH;have hno: ∀x∈l,x.name≠a.name:=by
  rcases eM (nm:=a.name) hs with ⟨h1,_,_⟩ | ⟨_,h2⟩
  ·rw [h1] at h;cases h
  ·exact h2
 rw [qi hno,if_neg (by decide)];refine xP a l _ (lz _ _) (fun j hj hlt=>(qh hs hj).2 hlt) (fun hk=>?_);cases hb:Op.bytesLess l[posA a.name l].name a.name with
 | false=>rfl
 | true=>exact absurd ((qh hs hk).1 hb) (Nat.lt_irrefl _)
theorem DG {a:bf}: ∀{l:List bf},ei l→(bz l a.name).2=true→ei (l.set (posA a.name l) a)
 | [],_,h=>by cases h
 | b :: r,hs,h=>by
  have hs':=a₀.1 hs
  rw [posA_cons]
  by_cases e:b.name=a.name
  ·rw [e,less_irr,if_neg sm,List.set_cons_zero]
   exact a₀.2 ⟨fun x hx=>by rw [← e];exact hs'.1 x hx,hs'.2⟩
  ·have e2:bz (b :: r) a.name=bz r a.name:=by unfold bz;rw [b₄ (by simp [e])]
   rw [e2] at h
   have hlt:Op.bytesLess b.name a.name=true:=by
    rcases eM (nm:=a.name) hs'.2 with ⟨_,h2,h3⟩ | ⟨h1,_⟩
    ·have:=hs'.1 _ (d₀ h2)
     rwa [h3] at this
    ·rw [h1] at h;cases h
   rw [if_pos hlt,List.set_cons_succ]
   refine a₀.2 ⟨fun x hx=>?_,DG hs'.2 h⟩
   rcases List.mem_or_eq_of_mem_set hx with hx | rfl
   ·exact hs'.1 x hx
   ·exact hlt
theorem AH {a:bf}: ∀{l:List bf},ei l→(∀x∈l,x.name≠a.name)→ei (pN a l)
 | [],_,_=>List.pairwise_singleton _ _
 | b :: r,hs,h=>by
  have hs':=a₀.1 hs
  rw [pN]
  split
  ·rename_i hlt
   refine a₀.2 ⟨fun x hx=>?_,AH hs'.2 fun x hx=>h x (b₇ _ hx)⟩
   rcases uA hx with rfl | hx
   ·exact hlt
   ·exact hs'.1 x hx
  ·rename_i hlt
   have hab:Op.bytesLess a.name b.name=true:=uU (by simpa using hlt) (h b (a₇ ..))
   refine a₀.2 ⟨fun x hx=>?_,hs⟩
   rcases a₂.1 hx with rfl | hx
   ·exact hab
   ·exact hO hab (hs'.1 x hx)
theorem qk {a:bf} {l:List bf} (hs:ei l):ei (fH a l):=by
 cases h:(bz l a.name).2 with
 | true=>rw [mN hs h];exact DG hs h
 | false=>
  have hno: ∀x∈l,x.name≠a.name:=by
   rcases eM (nm:=a.name) hs with ⟨h1,_,_⟩ | ⟨_,h2⟩
   ·rw [h1] at h;cases h
   ·exact h2
  unfold fH;rw [qi hno,if_neg (by decide)];exact AH hs hno
theorem IX: ∀{l:List bf} {q:List UInt8},BS (some q) l=0→(∀a∈l,Op.bytesLess q a.name=true)∧ei l
 | [],_,_=>⟨sm,List.Pairwise.nil⟩
 | a :: r,q,h=>by
  rw [pP] at h
  dsimp only at h
  split at h
  ·exact absurd h (by decide)
  ·split at h
   ·exact absurd h (by decide)
   ·rename_i hne
    split at h
    ·exact absurd h (by decide)
    ·rename_i hn2
     have hqa:Op.bytesLess q a.name=true:=by
      cases hb:Op.bytesLess q a.name with
      | true=>rfl
      | false=>rw [hb] at hn2;exact absurd (by simpa using hn2) hne
     obtain⟨h1,h2⟩:=IX h
     refine⟨fun x hx=>?_,a₀.2 ⟨h1,h2⟩⟩
     rcases a₂.1 hx with rfl | hx
     ·exact hqa
     ·exact hO hqa (h1 x hx)
theorem wP {l:dK} (h:fR l=0):ei l.acs∧l.acs.length≤256:=by
 unfold fR at h;split at h
 ·exact absurd h (by decide)
 ·rename_i hn;split at h
  ·rename_i h1;exact absurd h h1
  ·rename_i h1;have h1:=Decidable.not_not.1 h1;refine⟨?_,om⟩;generalize l.acs=z at h1;cases z with
   | nil=>exact List.Pairwise.nil
   | cons a r=>
    rw [pP] at h1;dsimp only at h1;split at h1
    ·exact absurd h1 (by decide)
    ·exact a₀.2 (IX h1)
end
section
variable {G:GS}
attribute [local irreducible] ak aB aD aI aN vC aW aw
theorem AI (l:List bf):aY (l.map aT) 3=true:=by
 cases l with
 | nil=>rfl
 | cons a r=>rfl
theorem FC (l:List bf) (hl:l.length < 536870912):aQ Tryz.prog G 78 [.sl l.length (l.map aT)] [] 0 (.sl l.length (l.map aT)) [] 0:=by
 refine dw seat Tryz.func78 8 ?_;refine aa ?_;refine GX rfl rfl (fun b hb=>?_);cases b with
 | true=>
  have h0:=hb rfl;have h1:l= [] :=d₉.1 h0;subst h1;refine aa ?_;refine au ?_;exact en [_]
 | false=>
  refine aa ?_;refine aL rfl rfl (by intro R hR;refine cI hR ?_;refine c₀ ((AI l)) ?_;refine c₀ ⟨rfl,ai (by kernel_rfl) pf⟩ ?_;refine⟨l.map aT,sv (by show [] ++ l.map aT=_;rw [g₂]),l.length,sv pf,?_⟩;exact hR) rfl ?_;refine aa ?_;refine⟨[_],[],[(5,l.length)],rfl,rfl,?_,rfl,⟨?_,trivial⟩,?_⟩
  ·exact⟨by show l.length≤(l.map aT).length;simp,trivial⟩
  ·exact .inr ⟨rfl,rfl,rfl,Nat.le_of_eq (b₆ _),bc aT l⟩
  ·exact mm
theorem rA (l:dK) (hl:l.acs.length < 536870912):aQ Tryz.prog G 46 [eh l] [] 0 (eh l) [] 0:=by
 obtain⟨acs,col⟩:=l;have c1:=FC (G:=G) acs hl;unfold eh;dsimp only at hl ⊢;refine dw seat Tryz.func46 8 ?_;refine aa ?_;refine jW (c1) ?_;refine au ?_;exact en [_]
def di (l:List bf):MB:=⟨91,3,true,0,l.map aT⟩
theorem FD (l:List bf) (hl:l.length < 536870912):aQ Tryz.prog G 78 [.sl l.length (l.map aT)] [] 0 (.ms 0 3 0 l.length) [(0,di l)] 1:=by
 unfold di;refine dw seat Tryz.func78 8 ?_;refine aa ?_;refine GX rfl rfl (fun b hb=>?_);cases b with
 | true=>
  have h0:=hb rfl;have h1:l= [] :=d₉.1 h0;subst h1;refine aa ?_;refine au ?_;exact en [_]
 | false=>
  refine aa ?_;refine aL rfl rfl (by intro R hR;refine cI hR ?_;refine c₀ ((AI l)) ?_;refine c₀ ⟨rfl,ai (by kernel_rfl) pf⟩ ?_;refine⟨l.map aT,sv (by show [] ++ l.map aT=_;rw [g₂]),l.length,sv pf,?_⟩;exact hR) rfl ?_;refine aa ?_;exact eb [_] [(0,5)] []
theorem AJ (l:dK) (hl:l.acs.length < 536870912):aQ Tryz.prog G 46 [eh l] [] 0 (.st [.ms 0 3 0 l.acs.length, .int .u64 l.col]) [(0,di l.acs)] 1:=by
 obtain⟨acs,col⟩:=l;have c1:=FD (G:=G) acs hl;unfold eh;unfold di at c1 ⊢;dsimp only at hl c1 ⊢;refine dw seat Tryz.func46 8 ?_;refine aa ?_;refine yc (c1) [] ?_;refine aa ?_;refine au ?_;exact eb [_] [(0,4)] []
theorem LL (m:Nat):((m:Int).fdiv (2 ^ (min (1:Int).toNat IntKind.u64.bits)))=((m / 2:Nat):Int):=by
 rw [show (2:Int) ^ (min (1:Int).toNat IntKind.u64.bits)=2 by rfl,d₆ _ (by decide)];omega
theorem Nc {l:List bf} {k:Nat} (h:k < l.length):bW (l.map aT) (0 + k)=some (aT l[k]):=by rw [bS,Nat.zero_add,List.getElem?_map,List.getElem?_eq_getElem h];rfl
theorem IY (l:List bf) (nm:List UInt8) (hl:l.length≤100000) (hs:ei l):aE Tryz.prog G 194 [.sl l.length (l.map aT), .str nm, .fn 195 []] (.tup [.int .i64 (posA nm l), .bool (bz l nm).2]):=by
 refine bA seat Tryz.func194 49 ?_;refine aa ?_;refine av (Nat×Nat) (fun x=> [(9, .int .i64 x.1),(10, .int .i64 x.2),(8, .int .i64 l.length),(2, .fn 195 []),(1, .str nm),(0, .sl l.length (l.map aT))]) (fun _=> []) 0 (fun x=>x.1≤posA nm l∧posA nm l≤x.2∧x.2≤l.length) (fun x=>x.2 - x.1) (0,l.length) ⟨b₀ _,lz _ _,a₆ _⟩ (vm [] []) ?_;rintro⟨i,j⟩ ⟨h1,h2,h3⟩;try dsimp only
 dsimp only at h1 h2 h3;refine aa ?_;refine ad rfl ?_ ?_ <;> intro h
 ·have hij:i < j:=by have:=ot h;omega
  have k2:=aU.mk (show(((i:Int) + (j:Int)).fdiv (2 ^ (min (1:Int).toNat IntKind.u64.bits)))=(((i + j) / 2:Nat):Int) by rw [← g₃];exact LL (i + j));have k4:=aU.mk (show IntKind.i64.wrap (((i + j) / 2:Nat):Int)=(((i + j) / 2:Nat):Int) by rw [IntKind.wrap_i64];omega);have hm:(i + j) / 2 < l.length:=om;have hmi:i≤(i + j) / 2∧(i + j) / 2 < j:=om;have hel:=eZ hm;have c1:=qg (G:=G) l[(i + j) / 2] nm;have hpl:=qh hs hm (nm:=nm);have hcl:=yh l[(i + j) / 2].name nm;generalize jy l[(i + j) / 2].name nm=cv at *;generalize l[(i + j) / 2] =a at *;obtain⟨an,ab,aq⟩:=a;unfold aT at c1;dsimp only at c1 hpl hcl;replace hel:bF (l.map aT) l.length (((i + j) / 2:Nat):Int)=some (.st [.str an, .int .u64 ab, .int .u64 aq]):=hel;have hel:=aj.mk hel;refine aa ?_;refine dL (c1) ?_;refine ad rfl ?_ ?_ <;> intro h
  ·have hlt:(i + j) / 2 < posA nm l:=hpl.1 (hcl.1 (ot h));refine aa ?_;exact⟨((i + j) / 2 + 1,j),⟨dm,h2,h3⟩,dm,(by dsimp only;exact(vm [] []))⟩
  ·have hlt: ¬ (i + j) / 2 < posA nm l:=fun hh=>oF h (hcl.2 (hpl.2 hh))
   refine aa ?_;exact⟨(i,(i + j) / 2),⟨h1,dm,dm⟩,dm,(by dsimp only;exact(vm [] []))⟩
 ·have hij: ¬ i < j:=by have:=oF h;omega
  have hi:i=posA nm l:=om;subst hi;clear h1 h2 h3 hij;by_cases hp:posA nm l < l.length
  ·have hel:=eZ hp;have c1:=qg (G:=G) l[posA nm l] nm;have hhas:=DE hs hp;rw [← hhas];generalize jy l[posA nm l].name nm=cv at *;generalize l[posA nm l] =a at *;obtain⟨an,ab,aq⟩:=a;unfold aT at c1;dsimp only at c1;replace hel:bF (l.map aT) l.length ((posA nm l:Nat):Int)=some (.st [.str an, .int .u64 ab, .int .u64 aq]):=hel;generalize posA nm l=pp at *;have hel:=aj.mk hel;refine aa ?_;rw [show decide ((pp:Int) < (l.length:Int))=true from decide_eq_true om];refine aa ?_;refine dL (c1) ?_;refine au ?_;rfl
  ·have hhas:=DF hs hp;rw [hhas];generalize posA nm l=pp at *;refine aa ?_;rw [show decide ((pp:Int) < (l.length:Int))=false from decide_eq_false om];refine aa ?_;refine au ?_;rfl
theorem AK (l:dK) (nm:List UInt8) (hl:l.acs.length≤100000) (hs:ei l.acs):aE Tryz.prog G 133 [eh l, .str nm] (.tup [.int .i64 (posA nm l.acs), .bool (bz l.acs nm).2]):=by
 obtain⟨acs,col⟩:=l;dsimp only at hl hs ⊢;have c1:=IY (G:=G) acs nm hl hs;generalize (bz acs nm).2=hh at *;generalize posA nm acs=pp at *;unfold eh;dsimp only;refine bA seat Tryz.func133 12 ?_;refine aa ?_;refine dL (c1) ?_;refine au ?_;rfl
theorem IZ (l:List bf) (nm:List UInt8) (hl:l.length≤100000) (hs:ei l):aQ Tryz.prog G 194 [.ms 0 3 0 l.length, .str nm, .fn 195 []] [(0,di l)] 1 (.tup [.int .i64 (posA nm l), .bool (bz l nm).2]) [(0,di l)] 1:=by
 unfold di;refine dw seat Tryz.func194 49 ?_;refine aa ?_;refine av (Nat×Nat) (fun x=> [(9, .int .i64 x.1),(10, .int .i64 x.2),(8, .int .i64 l.length),(2, .fn 195 []),(1, .str nm),(0, .ms 0 3 0 l.length)]) (fun _=> [(0,⟨91,3,true,0,l.map aT⟩)]) 1 (fun x=>x.1≤posA nm l∧posA nm l≤x.2∧x.2≤l.length) (fun x=>x.2 - x.1) (0,l.length) ⟨b₀ _,lz _ _,a₆ _⟩ (vm [] []) ?_;rintro⟨i,j⟩ ⟨h1,h2,h3⟩;try dsimp only
 dsimp only at h1 h2 h3;refine aa ?_;refine ad rfl ?_ ?_ <;> intro h
 ·have hij:i < j:=by have:=ot h;omega
  have k2:=aU.mk (show(((i:Int) + (j:Int)).fdiv (2 ^ (min (1:Int).toNat IntKind.u64.bits)))=(((i + j) / 2:Nat):Int) by rw [← g₃];exact LL (i + j));have k4:=aU.mk (show IntKind.i64.wrap (((i + j) / 2:Nat):Int)=(((i + j) / 2:Nat):Int) by rw [IntKind.wrap_i64];omega);have hm:(i + j) / 2 < l.length:=om;have hmi:i≤(i + j) / 2∧(i + j) / 2 < j:=om;have hel:=Nc hm;have c1:=qg (G:=G) l[(i + j) / 2] nm;have hpl:=qh hs hm (nm:=nm);have hcl:=yh l[(i + j) / 2].name nm;generalize jy l[(i + j) / 2].name nm=cv at *;generalize l[(i + j) / 2] =a at *;obtain⟨an,ab,aq⟩:=a;unfold aT at c1;dsimp only at c1 hpl hcl;replace hel:bW (l.map aT) (0 + (i + j) / 2)=some (.st [.str an, .int .u64 ab, .int .u64 aq]):=hel;have hel:=aj.mk hel;refine aa ?_;refine dL (c1) ?_;refine ad rfl ?_ ?_ <;> intro h
  ·have hlt:(i + j) / 2 < posA nm l:=hpl.1 (hcl.1 (ot h));refine aa ?_;exact⟨((i + j) / 2 + 1,j),⟨dm,h2,h3⟩,dm,(by dsimp only;exact(vm [] []))⟩
  ·have hlt: ¬ (i + j) / 2 < posA nm l:=fun hh=>oF h (hcl.2 (hpl.2 hh))
   refine aa ?_;exact⟨(i,(i + j) / 2),⟨h1,dm,dm⟩,dm,(by dsimp only;exact(vm [] []))⟩
 ·have hij: ¬ i < j:=by have:=oF h;omega
  have hi:i=posA nm l:=om;subst hi;clear h1 h2 h3 hij;by_cases hp:posA nm l < l.length
  ·have hel:=Nc hp;have c1:=qg (G:=G) l[posA nm l] nm;have hhas:=DE hs hp;rw [← hhas];generalize jy l[posA nm l].name nm=cv at *;generalize l[posA nm l] =a at *;obtain⟨an,ab,aq⟩:=a;unfold aT at c1;dsimp only at c1;replace hel:bW (l.map aT) (0 + posA nm l)=some (.st [.str an, .int .u64 ab, .int .u64 aq]):=hel;generalize posA nm l=pp at *;have hel:=aj.mk hel;refine aa ?_;rw [show decide ((pp:Int) < (l.length:Int))=true from decide_eq_true om];refine aa ?_;refine dL (c1) ?_;refine au ?_;exact en [_,_]
  ·have hhas:=DF hs hp;rw [hhas];generalize posA nm l=pp at *;refine aa ?_;rw [show decide ((pp:Int) < (l.length:Int))=false from decide_eq_false om];refine aa ?_;refine au ?_;exact en [_,_]
theorem I0 (l:List bf) (col:Int) (nm:List UInt8) (hl:l.length≤100000) (hs:ei l):aQ Tryz.prog G 133 [.st [.ms 0 3 0 l.length, .int .u64 col], .str nm] [(0,di l)] 1 (.tup [.int .i64 (posA nm l), .bool (bz l nm).2]) [(0,di l)] 1:=by
 have c1:=IZ (G:=G) l nm hl hs;generalize (bz l nm).2=hh at *;generalize posA nm l=pp at *;unfold di at *;refine dw seat Tryz.func133 12 ?_;refine aa ?_;refine yc (c1) [(0,0)] ?_;refine aa ?_;exact en [_,_]
end
section
def FE (s:List UInt8) (ks:List (List UInt8)):List (List UInt8):=if s∈ks then ks else ks ++ [s]
def hX (acs:List bf):List lh→List (List UInt8)→List (List UInt8)
 | [],ks=>ks
 | x :: r,ks=>hX acs r (if (bz acs x.to_).2=true then ks else FE x.to_ ks)
theorem getS_any (l:List bf) (nm:List UInt8):(bz l nm).2=l.any (fun a=>decide (a.name=nm)):=by
 induction l with
 | nil=>rfl
 | cons a r ih=>
  rw [f₀];by_cases h:a.name=nm
  ·have e:bz (a :: r) nm=(a,true):=by unfold bz;rw [e₅ (by simp [h])]
   rw [e];simp [h]
  ·have e:bz (a :: r) nm=bz r nm:=by unfold bz;rw [b₄ (by simp [h])]
   rw [e,ih];simp [h]
theorem DH {a:bf} {l:List bf} (hs:ei l):(fH a l).length=l.length + (if (bz l a.name).2=true then 0 else 1):=by
 cases h:(bz l a.name).2 with
 | true=>rw [mN hs h];simp
 | false=>
  rw [qj hs h];have:=lz a.name l;simp;omega
theorem yi {a:bf} {l:List bf} (hs:ei l) (nm:List UInt8):(bz (fH a l) nm).2=((bz l nm).2 || decide (a.name=nm)):=by
 cases h:(bz l a.name).2 with
 | true=>
  rw [mN hs h,getS_any,getS_any];rcases eM (nm:=a.name) hs with ⟨_,h2,h3⟩ | ⟨h1,_⟩
  ·obtain⟨hk,h2⟩:=b₉.1 h2;have e1:l.set (posA a.name l) a=l.take (posA a.name l) ++ a :: l.drop (posA a.name l + 1):=List.set_eq_take_append_cons_drop.trans (if_pos hk);have e2:l=l.take (posA a.name l) ++ l[posA a.name l] :: l.drop (posA a.name l + 1):=by
    conv=>lhs;rw [← c₆ (posA a.name l) l,b₈ hk]
   rw [e1]
   conv=>rhs;rw [e2]
   rw [h2];simp only [g₄,f₀,h3];cases decide (a.name=nm) <;> simp
  ·rw [h1] at h;cases h
 | false=>
  rw [qj hs h,getS_any,getS_any]
  conv=>rhs;rw [← c₆ (posA a.name l) l]
  simp only [g₄,f₀];cases decide (a.name=nm) <;> simp
theorem FF (x:lh) {acs:List bf} (hs:ei acs):(lq x acs).name=x.to_:=by
 unfold lq;rcases eM (nm:=x.to_) hs with ⟨h1,_,h3⟩ | ⟨h1,_⟩
 ·rw [if_pos h1];exact h3
 ·rw [if_neg (by rw [h1];simp)]
theorem ql {x:lh} {acs:List bf} (hs:ei acs):ei (gC acs x):=qk hs
theorem qm (z:List bf): ∀(trs:List lh) (cur:List bf) (ks:List (List UInt8)),ei cur→(∀nm,(bz cur nm).2=((bz z nm).2 || decide (nm∈ks)))→(trs.foldl gC cur).length + ks.length=cur.length + (hX z trs ks).length
 | [],cur,ks,_,_=>rfl
 | x :: r,cur,ks,hs,hk=>by
  rw [List.foldl_cons,hX]
  have hn:=FF x hs
  have hl:(gC cur x).length=cur.length + (if (bz cur x.to_).2=true then 0 else 1):=by
   unfold gC
   rw [DH hs]
   dsimp only
   rw [hn]
  have hh: ∀nm,(bz (gC cur x) nm).2=((bz cur nm).2 || decide (x.to_=nm)):=fun nm=>by
   unfold gC
   rw [yi hs]
   dsimp only
   rw [hn]
  have hx:=hk x.to_
  by_cases hz:(bz z x.to_).2=true
  ·rw [if_pos hz]
   rw [hz,Bool.true_or] at hx
   rw [if_pos hx] at hl
   have ih:=qm z r (gC cur x) ks (ql hs) (fun nm=>by
    rw [hh,hk]
    by_cases e:x.to_=nm
    ·subst e;rw [hz];simp
    ·simp [e])
   omega
  ·rw [if_neg hz]
   have hz':(bz z x.to_).2=false:=by simpa using hz
   rw [hz',Bool.false_or] at hx
   unfold FE
   by_cases hm:x.to_∈ks
   ·rw [if_pos hm]
    rw [if_pos (by rw [hx];simpa using hm)] at hl
    have ih:=qm z r (gC cur x) ks (ql hs) (fun nm=>by
     rw [hh,hk]
     by_cases e:x.to_=nm
     ·subst e;simp [hm]
     ·simp [e])
    omega
   ·rw [if_neg hm]
    rw [if_neg (by rw [hx];simpa using hm)] at hl
    have ih:=qm z r (gC cur x) (ks ++ [x.to_]) (ql hs) (fun nm=>by
     rw [hh,hk,Bool.or_assoc]
     congr 1
     by_cases e:x.to_=nm
     ·subst e;simp
     ·simp [e,Ne.symm e])
    rw [d₅,List.length_singleton] at ih
    omega
theorem I1 {l:dK} {t:je} {sum:Nat} (hs:ei l.acs) (hp:(bz l.acs t.sender).2=true):(iC l t sum).acs.length=l.acs.length + (hX l.acs t.trs []).length:=by
 have hn:(jv l t sum).name=t.sender:=by
  rcases eM (nm:=t.sender) hs with ⟨_,_,h3⟩ | ⟨h1,_⟩
  ·exact h3
  ·rw [h1] at hp;cases hp
 have h1:(fH (jv l t sum) l.acs).length=l.acs.length:=by rw [DH hs,hn,if_pos hp,Nat.add_zero]
 have h2:=qm l.acs t.trs (fH (jv l t sum) l.acs) [] (qk hs) (fun nm=>by
  rw [yi hs,hn];by_cases e:t.sender=nm
  ·subst e;rw [hp];simp
  ·simp [e])
 rw [h1,List.length_nil,Nat.add_zero] at h2;exact h2
theorem uV (z:List bf): ∀(trs:List lh) (ks:List (List UInt8)),(hX z trs ks).length≤ks.length + trs.length
 | [],_=>a₆ _
 | x :: r,ks=>by
  rw [hX]
  have ih:=uV z r
  have h2:(FE x.to_ ks).length≤ks.length + 1:=by unfold FE;split <;> simp
  split
  ·have:=ih ks;simp;omega
  ·have:=ih (FE x.to_ ks);simp;omega
theorem uW {s:List UInt8}: ∀{ks:List (List UInt8)} {i:Nat},s ∉ ks→findM s (ks.map MV.str) i=some none
 | [],_,_=>rfl
 | x :: r,i,h=>by
  rw [a₂,not_or] at h
  rw [c₃,findM,beq_eq_false_iff_ne.2 h.1]
  exact uW h.2
theorem rB {s:List UInt8}: ∀{ks:List (List UInt8)} {i:Nat},s∈ks→∃j,findM s (ks.map MV.str) i=some (some (i + j))∧j < ks.length
 | x :: r,i,h=>by
  rw [c₃,findM]
  by_cases e:s=x
  ·exact⟨0,by rw [beq_iff_eq.2 e];rfl,sm⟩
  ·rw [beq_eq_false_iff_ne.2 e]
   obtain⟨j,hj,hl⟩:=rB (i:=i + 1) ((a₂.1 h).resolve_left e)
   exact⟨j + 1,by rw [show i + (j + 1)=i + 1 + j by omega];exact hj,by simpa using hl⟩
end
section
def sn:List bf→List (List UInt8)→Nat
 | [],_=>0
 | a :: r,ks=>if dS a.name=false then 10 else if a.name∈ks then 8 else sn r (ks ++ [a.name])
theorem yj {nm:List UInt8} {l:List bf} (hs:ei l):(0≤fG nm l 0)↔(bz l nm).2=true:=by
 rcases eM (nm:=nm) hs with ⟨h1,_,_⟩ | ⟨h1,h2⟩
 ·rw [rz hs h1,h1];simp
 ·rw [qi h2,h1];simp
theorem Ck: ∀(r l:List bf) (ks:List (List UInt8)),ei l→(∀nm,(bz l nm).2=decide (nm∈ks))→(i6 r l).2=sn r ks
 | [],_,_,_,_=>rfl
 | a :: r,l,ks,hs,hk=>by
  rw [i6,sn]
  by_cases h1:dS a.name=false
  ·rw [if_pos h1,if_pos h1]
  ·rw [if_neg h1,if_neg h1]
   by_cases h2:a.name∈ks
   ·rw [if_pos h2,if_pos ((yj hs).2 (by rw [hk];simpa using h2))]
   ·rw [if_neg h2,if_neg (fun h=>h2 (by have:=(yj hs).1 h;rw [hk] at this;simpa using this))]
    refine Ck r _ _ (qk hs) fun nm=>?_
    rw [yi hs,hk]
    by_cases e:a.name=nm
    ·subst e;simp
    ·simp [e,Ne.symm e]
theorem Cl: ∀(r l:List bf),ei l→(i6 r l).2=0→ei (i6 r l).1∧(i6 r l).1.Perm (l ++ r)
 | [],l,hs,_=>by rw [i6,g₅];exact⟨hs,List.Perm.refl _⟩
 | a :: r,l,hs,h=>by
  rw [i6] at h ⊢
  by_cases h1:dS a.name=false
  ·rw [if_pos h1] at h;exact absurd h (by decide)
  ·rw [if_neg h1] at h ⊢
   by_cases h2:0≤fG a.name l 0
   ·rw [if_pos h2] at h;exact absurd h (by decide)
   ·rw [if_neg h2] at h ⊢
    obtain⟨h3,h4⟩:=Cl r (fH a l) (qk hs) h
    refine⟨h3,h4.trans ?_⟩
    have hno:(bz l a.name).2=false:=by
     cases hb:(bz l a.name).2 with
     | false=>rfl
     | true=>exact absurd ((yj hs).2 hb) h2
    have hp:(fH a l).Perm (a :: l):=by
     rw [qj hs hno]
     have:=f₉ (a:=a) (l₁:=l.take (posA a.name l)) (l₂:=l.drop (posA a.name l))
     rwa [c₆] at this
    refine(hp.append_right r).trans ?_
    exact(f₉ (a:=a) (l₁:=l) (l₂:=r)).symm
theorem uX: ∀(r:List bf) (ks:List (List UInt8)),sn r ks=0→r.Pairwise (fun a b=>a.name≠b.name)∧∀a∈r,a.name ∉ ks
 | [],_,_=>⟨List.Pairwise.nil,sm⟩
 | a :: r,ks,h=>by
  rw [sn] at h
  split at h
  ·exact absurd h (by decide)
  ·split at h
   ·exact absurd h (by decide)
   ·rename_i hm
    obtain⟨h1,h2⟩:=uX r _ h
    refine⟨a₀.2 ⟨fun b hb e=>h2 b hb (by rw [← e];simp),h1⟩,fun b hb=>?_⟩
    rcases a₂.1 hb with rfl | hb
    ·exact hm
    ·exact fun hk=>h2 b hb (List.mem_append_left _ hk)
theorem AM: ∀{l m:List bf},ei l→ei m→l.Perm m→l=m
 | [],m,_,_,h=>(List.nil_perm.1 h).symm
 | a :: r,[],_,_,h=>absurd (List.perm_nil.1 h) sm
 | a :: r,b :: s,hl,hm,h=>by
  have h1:=a₀.1 hl
  have h2:=a₀.1 hm
  have hab:a=b:=by
   rcases a₂.1 (h.subset (a₇ ..)) with e | ha
   ·exact e
   ·rcases a₂.1 (h.symm.subset (a₇ ..)) with e | hb
    ·exact e.symm
    ·have k1:=h2.1 a ha
     have k2:=h1.1 b hb
     rw [Fy k1] at k2
     cases k2
  subst hab
  rw [AM h1.2 h2.2 h.cons_inv]
theorem vD {l m:List bf} (hp:l.Perm m) (hd:m.Pairwise (fun a b=>a.name≠b.name)) (hs:l.Pairwise (fun a b=>Op.bytesLess b.name a.name=false)):ei l:=by
 have hd':l.Pairwise (fun a b=>a.name≠b.name):=hp.symm.pairwise hd (fun h e=>h e.symm);exact hs.imp₂ (fun a b h1 h2=>uU h1 (Ne.symm h2)) hd'
def uY (l:List bf):Nat:=(l.map (·.bal)).sum
theorem yk: ∀(l:List bf) (s:Nat),(totS l s).2=true↔(l= [] ∨s + uY l < 18446744073709551616)
 | [],s=>by simp [totS]
 | a :: r,s=>by
  rw [totS]
  have ih:=yk r (iM s a.bal).1
  have e:uY (a :: r)=a.bal + uY r:=by simp [uY]
  unfold iM at *
  by_cases h:s + a.bal < 18446744073709551616
  ·rw [if_pos h] at *
   rw [if_pos rfl,ih,e]
   dsimp only
   constructor
   ·rintro(rfl | h2)
    ·right;simp [uY];omega
    ·right;omega
   ·rintro(h2 | h2)
    ·cases h2
    ·right;omega
  ·rw [if_neg h,if_neg sm,e]
   simp
   omega
theorem wQ {l m:List bf} (h:l.Perm m):(totS l 0).2=(totS m 0).2:=by
 have hs:uY l=uY m:=(h.map _).sum_nat;have hn:l= [] ↔m= [] :=⟨fun e=>by subst e;exact List.nil_perm.1 h,fun e=>by subst e;exact List.perm_nil.1 h⟩;have h1:=yk l 0;have h2:=yk m 0;rw [hs,hn] at h1;have:=h1.trans h2.symm;cases ha:(totS l 0).2 <;> cases hb:(totS m 0).2 <;> simp_all
end
section
open Go.RowKit Go.Lib Go.Shelf Go.Sort
instance:Inhabited bf:=⟨ac0⟩
def jc (a:bf):List Value:= [.string ⟨a.name.toArray⟩, .int .u64 a.bal, .int .u64 a.seq]
theorem rC (x:ByteArray) (w:World):Calls Tryz.prog 126 #[.string x] w fun e w'=>e= .returned (.bool false)∧w'=w:=by
 go_enter Tryz.func126,Tryz.ntmps126
 go_wp2
 go_ret
 exact⟨sm,rfl⟩
theorem AN (x y:List UInt8) (w:World):Calls Tryz.prog 77 #[.string ⟨x.toArray⟩, .string ⟨y.toArray⟩] w fun e w'=>e= .returned (.int .i64 (jy x y))∧w'=w:=by
 have ex:(⟨x.toArray⟩:ByteArray).toList=x:=by rw [Lib.toList_data]
 have ey:(⟨y.toArray⟩:ByteArray).toList=y:=by rw [Lib.toList_data]
 have hgt: ∀w,(binOp .gtr 9 (.string ⟨x.toArray⟩) (.string ⟨y.toArray⟩)).run Tryz.prog w= .ok (.bool (!(Op.bytesLess x y || x == y))) w:=fun w=>by simp [binOp,Op.stringOp,ex,ey]
 unfold jy;by_cases h1:Op.bytesLess x y=true
 ·rw [if_pos h1]
  go_enter Tryz.func77,Tryz.ntmps77
  go_wp2_with (go_at_call 126;refine(rC _ _).mono ?_;rintro e w' ⟨rfl,rfl⟩)
  go_ret
  exact⟨rfl,rfl⟩
 ·rw [if_neg h1];have h1:Op.bytesLess x y=false:=by simpa using h1
  by_cases h2:x=y
  ·subst h2;rw [h1,beq_self_eq_true,Bool.or_true,Bool.not_true] at hgt;rw [if_neg sm]
   go_enter Tryz.func77,Tryz.ntmps77
   go_wp2_with (first | (go_at_call 126;refine(rC _ _).mono ?_;rintro e w' ⟨rfl,rfl⟩) | simp only [hgt,Result.andThen_ok])
   go_ret
   exact⟨rfl,rfl⟩
  ·have h3:(x == y)=false:=beq_eq_false_iff_ne.2 h2;rw [h1,h3,Bool.or_false,Bool.not_false] at hgt;rw [if_pos (by simp [h1,h2])]
   go_enter Tryz.func77,Tryz.ntmps77
   go_wp2_with (first | (go_at_call 126;refine(rC _ _).mono ?_;rintro e w' ⟨rfl,rfl⟩) | simp only [hgt,Result.andThen_ok])
   go_ret
   exact⟨rfl,rfl⟩
theorem I2 (a b:bf) (W:World):Calls Tryz.prog 76 #[.agg (jc a).toArray, .agg (jc b).toArray] W fun e w'=>e= .returned (.int .i64 (jy a.name b.name))∧∃q os',w'=grow (W.drewN q) os':=by
 have hcon:=fun W'=>AN a.name b.name W'
 unfold jc;generalize jy a.name b.name=r at hcon ⊢
 go_enter Tryz.func76,Tryz.ntmps76
 go_wp2_with (go_at_call 77;refine(hcon _).mono ?_;rintro e w' ⟨rfl,rfl⟩)
 go_ret
 exact⟨rfl,0,_,by rw [alloc_eq_grow,alloc_eq_grow,grow_grow];rfl⟩
end
section
open Go.RowKit Go.Lib Go.Shelf
theorem I3:(Tryz.prog.info? 91).map (fun i=>(i.zero,i.size,i.bytes))=some (some (.agg #[.string ⟨#[]⟩, .int .u64 0, .int .u64 0]),3,32):=by kernel_rfl
theorem AO:Tryz.prog.underlying 22=some (.slice 91):=by kernel_rfl
theorem DI:Tryz.prog.underlying 3=some (.int .i64):=by kernel_rfl
section
variable {P:Program}
theorem yl (w:World) {o:Oper} {a:Act} {K:Act→World→Prop} {Q:Exit→Act→World→Prop} (d s:Operand) (t t':TypeId)
  (ho:o.op= .call { callee:= .builtin .copy,args:= #[d,s],argTypes:= #[t,t'] }) (v u:Value) (hd:a.eval d=v) (hs:a.eval s=u) {v':Value} {w':World}
  (hr:(Builtin.copy_ #[t,t'] o.type #[v,u]).run P w= .ok v' w') (h:K (a.put o.dst v') w'):o.wp P a w K Q:=by
 unfold Oper.wp execOp
 simp only [ho,resolve,invoke,builtin,Sem.run_bind,Sem.run_pure,Result.andThen_ok,List.map_toArray,c₃,List.map_nil,hd,hs,hr]
 exact h
theorem kH (w:World) {ops:Array Oper} {rest:List Oper} {o:Oper} {a:Act} {Q:Exit→Act→World→Prop} (hgd:o.guard=none) (d s:Operand) (t t':TypeId)
  (ho:o.op= .call { callee:= .builtin .copy,args:= #[d,s],argTypes:= #[t,t'] }) (v u:Value) (hd:a.eval d=v) (hs:a.eval s=u) {v':Value} {w':World}
  (hr:(Builtin.copy_ #[t,t'] o.type #[v,u]).run P w= .ok v' w') (h:wpList P ops Q rest (a.put o.dst v') w'):wpList P ops Q (o :: rest) a w:=
 wpList_plain hgd fun _ hK=>yl w d s t t' ho v u hd hs hr (hK _ _ h)
theorem mO {ops:Array Oper} {o:Oper} {a:Act} {w:World} {K:Act→World→Prop} {Q:Exit→Act→World→Prop} {E:Prop}
  (hg:o.guard=none) (d x:Operand) (dT sT:TypeId) (hop:o.op=Op.call { callee:=Callee.builtin Builtin.copy,args:= #[d,x],argTypes:= #[dT,sT] })
  (v u:Value) (hd:a.eval d=v) (hx:a.eval x=u) {v':Value} {w':World} (hr:(Builtin.copy_ #[dT,sT] o.type #[v,u]).run P w= .ok v' w') (hK:K (a.put o.dst v') w') :
  if Region.wanted o (yielded ops a.tmps)=true then Oper.wp P o a w K Q else E:=by
 have hw:Region.wanted o (yielded ops a.tmps)=true:=by simp [Region.wanted,hg]
 rw [if_pos hw]
 unfold Oper.wp
 simp [execOp,hop,resolve,invoke,builtin,hd,hx,hr,Result.andThen]
 exact hK
end
theorem ij {P:Program} (w:World) (dT sT ty elem:TypeId) (es g o dLen dCap:Nat) (a:Addr) (sLen sCap:Nat) (cur:Array Value) (t:TypeId) (cs:List Value)
  (hu:P.underlying dT=some (.slice elem)) (hs:(P.info? elem).map (·.size)=some es)
  (hg:w.heap[g]? =some (.cells cur t (0,0))) (hn:cs.length=e₈ sLen dLen * es)
  (hsrc: ∀j v,cs[j]? =some v→w.cell? (a.add j)=some v) (hfit:o + cs.length≤cur.size) (h1: ∀v∈cs,v.oneCell'=true) :
  (Builtin.copy_ #[dT,sT] ty #[.slice (some ⟨g,o,none⟩) dLen dCap, .slice (some a) sLen sCap]).run P w =
   .ok (goInt (e₈ sLen dLen)) (w.setRow g (cur.toList.take o ++ cs ++ cur.toList.drop (o + cs.length)).toArray):=by
 have hl:=run_loadCells_list (P:=P) w a cs hsrc
 have hst:=run_storeCells_at P g o t cs 0 cur w hg (by simpa using hfit) h1
 cases hq:P.info? elem with
 | none=>simp [hq] at hs
 | some i=>
  have hi:i.size=es:=by simpa [hq] using hs
  simp [Builtin.copy_,run_underlying hu,Builtin.lenOf,Builtin.firstCells,sizeOf,typeInfo,hq,hi,← hn,hl,hst]
def FG:Value:= .agg #[.string ⟨#[]⟩, .int .u64 0, .int .u64 0]
theorem rX: ∃i0,Tryz.prog.info? 91=some i0∧i0.zero=some FG∧i0.size=3∧i0.bytes=32:=by
 have h:=I3;cases hq:Tryz.prog.info? 91 with
 | none=>rw [hq] at h;cases h
 | some i=>
  rw [hq] at h;simp only [Option.map_some,Option.some.injEq,e₉] at h;exact⟨i,rfl,h.1,h.2.1,h.2.2⟩
set_option maxRecDepth 100000 in
theorem I4 (b off n c i vb voff vc:Nat) (cs vs:List Value) (w:World) (hi:i < n) (hnc:n≤c) (hroom:c < n + 1) (hbig:(n + 1) * 32≤140737488355328)
  (hcl:cs.length=n * 3) (hvl:vs.length=3)
  (hcs: ∀j v,cs[j]? =some v→w.cell? ⟨b,off + j,none⟩=some v)
  (hvs: ∀j v,vs[j]? =some v→w.cell? ⟨vb,voff + j,none⟩=some v) (h1c: ∀v∈cs,v.oneCell'=true) (h1v: ∀v∈vs,v.oneCell'=true) :
  Calls Tryz.prog 139 #[.slice (some ⟨b,off,none⟩) n c, .int .i64 i, .slice (some ⟨vb,voff,none⟩) 1 vc] w fun e w'=>
   ∃G,n + 1≤G∧G≤maxLen∧∃ROW:Array Value,ROW.size=G * 3∧(cs.take (i * 3) ++ vs ++ cs.drop (i * 3)) <+:ROW.toList∧
   e= .returned (.slice (some ⟨w.heap.size,0,none⟩) (n + 1) G)∧
   ∃R1 R0,w'=(((w.alloc (.cells R0 91)).drew.setRow w.heap.size R1).drew).setRow w.heap.size ROW:=by
 obtain⟨i0,hi0,hz0,hzs,hzb⟩:=rX
 have ha:Tryz.prog.underlying 22=some (.slice 91):=AO
 have hint:Tryz.prog.underlying 3=some (.int .i64):=DI
 have u22:=run_underlying ha
 have u3:=run_underlying hint
 have hz2: ¬ ((i:Int)=(n:Int)):=om
 have hz3:(c:Int) < (n:Int) + 1:=om
 have hsz:(Tryz.prog.info? 91).map (·.size)=some 3:=by rw [hi0];simp [hzs]
 have hbw:b < w.heap.size:=block_lt_of_cell (hcs 0 _ (b₁ om))
 have hvw:vb < w.heap.size:=block_lt_of_cell (hvs 0 _ (b₁ om))
 have hkk:(n:Int) + 1 - (i:Int)=((n + 1 - i:Nat):Int):=om
 have hik:i + (n + 1 - i)=n + 1:=om
 have hold:(Builtin.firstCells i0.size i (.slice (some ⟨b,off,none⟩) i c)).run Tryz.prog w.drew= .ok (cs.take (i * 3)).toArray w.drew:=by
  rw [hzs]
  exact run_firstCells_some w.drew 3 i ⟨b,off,none⟩ i c (cs.take (i * 3)) (by rw [c₅];omega) (fun j v hj=>by
   rw [Addr.add_lit]
   rw [List.getElem?_take] at hj
   split at hj
   ·exact hcs j v hj
   ·cases hj)
 have hrz: ∀ty,(Builtin.append_ #[22,3] ty #[.slice (some ⟨b,off,none⟩) i c, .int .i64 ((n:Int) + 1 - (i:Int))]).run Tryz.prog w =
   .ok (.slice (some ⟨w.heap.size,0,none⟩) (n + 1) (grownCap w (n + 1) c 91)) (w.drew.alloc (.cells ((cs.take (i * 3)).toArray ++ Builtin.zeroCells FG.cells (n + 1 - i) ++ Builtin.zeroCells FG.cells (grownCap w (n + 1) c 91 - (n + 1))) 91)):=fun ty=>by
  have h:=Lib.run_append_grow_zeros w 22 3 ty 91 i0 _ .i64 .i64 ha hint hi0 hz0 (some ⟨b,off,none⟩) i c (cs.take (i * 3)) hold (n + 1 - i) om om om om (by rw [hzb];omega) (by rw [hzb,hik];exact growslice_fits hroom hbig)
  rw [hik] at h
  rw [hkk]
  exact h
 have hGn:n + 1≤grownCap w (n + 1) c 91:=grownCap_ge w _ _ _
 have hG63:grownCap w (n + 1) c 91≤maxLen:=grownCap_le_maxLen w (n + 1) c 91 (by unfold maxLen;omega)
 obtain⟨G,hG⟩: ∃G,G=grownCap w (n + 1) c 91:=⟨_,rfl⟩
 obtain⟨ROW,hROW⟩: ∃ROW:Array Value,ROW=(cs.take (i * 3)).toArray ++ Builtin.zeroCells FG.cells (n + 1 - i) ++ Builtin.zeroCells FG.cells (G - (n + 1)):=⟨_,rfl⟩
 rw [← hG] at hrz hGn hG63
 rw [← hROW] at hrz
 have hRl:ROW.size=G * 3:=by
  have hz: ∀k,(Builtin.zeroCells FG.cells k).size=k * 3:=fun k=>by unfold Builtin.zeroCells;rw [Array.size_map,Array.size_range];rfl
  rw [hROW,Array.size_append,Array.size_append,hz,hz,List.size_toArray,c₅,hcl]
  simp only [d₄]
  split <;> omega
 have hW1g: ∀(W:World),W.heap=(w.alloc (.cells ROW 91)).heap→W.heap[w.heap.size]? =some (.cells ROW 91 (0,0)):=fun W hW=>by
  rw [hW]
  show(w.heap.push (.cells ROW 91 (0,0)))[w.heap.size]? =_
  exact Array.getElem?_push_size
 have hOb: ∀(W:World),W.heap=(w.alloc (.cells ROW 91)).heap→∀x j v,x < w.heap.size→w.cell? ⟨x,j,none⟩=some v→W.cell? ⟨x,j,none⟩=some v:=fun W hW x j v hx h=>by
  have h1:=World.cell?_alloc_past (w:=w) (.cells ROW 91) x j hx
  unfold World.cell? at h1 h ⊢
  rw [hW]
  exact h1.trans h
 have hcpA: ∀(W:World),W.heap=(w.alloc (.cells ROW 91)).heap→∀ty dc,(Builtin.copy_ #[22,22] ty #[.slice (some ⟨w.heap.size,i * 3,none⟩) (n + 1 - i) dc, .slice (some ⟨vb,voff,none⟩) 1 vc]).run Tryz.prog W= .ok (goInt 1) (W.setRow w.heap.size (ROW.toList.take (i * 3) ++ vs ++ ROW.toList.drop (i * 3 + 3)).toArray):=fun W hW ty dc=>by
  have hm:e₈ 1 (n + 1 - i)=1:=by simp only [d₄];split <;> omega
  have h:=ij W 22 22 ty 91 3 w.heap.size (i * 3) (n + 1 - i) dc ⟨vb,voff,none⟩ 1 vc ROW 91 vs ha hsz (hW1g W hW) (by rw [hm,hvl]) (fun j v hj=>by rw [Addr.add_lit];exact hOb W hW vb _ v hvw (hvs j v hj)) om h1v
  rw [hm,hvl] at h
  exact h
 obtain⟨R1,hR1⟩: ∃R1,R1=(ROW.toList.take (i * 3) ++ vs ++ ROW.toList.drop (i * 3 + 3)).toArray:=⟨_,rfl⟩
 rw [← hR1] at hcpA
 have hR1l:R1.size=G * 3:=by
  rw [hR1]
  simp
  omega
 have hdl:(cs.drop (i * 3)).length=(n - i) * 3:=by rw [d₈,hcl];omega
 have hcpB: ∀(W:World),W.heap=((w.alloc (.cells ROW 91)).drew.setRow w.heap.size R1).heap→∀ty dc sc,(Builtin.copy_ #[22,22] ty #[.slice (some ⟨w.heap.size,(i + 1) * 3,none⟩) (n - i) dc, .slice (some ⟨b,off + i * 3,none⟩) (n - i) sc]).run Tryz.prog W= .ok (goInt (n - i:Nat)) (W.setRow w.heap.size (R1.toList.take ((i + 1) * 3) ++ cs.drop (i * 3) ++ R1.toList.drop ((i + 1) * 3 + (n - i) * 3)).toArray):=fun W hW ty dc sc=>by
  have hm:e₈ (n - i) (n - i)=n - i:=Nat.min_self _
  have hg1:W.heap[w.heap.size]? =some (.cells R1 91 (0,0)):=by
   rw [hW]
   exact setRow_heap _ w.heap.size ROW R1 91 (0,0) (hW1g _ rfl)
  have h:=ij W 22 22 ty 91 3 w.heap.size ((i + 1) * 3) (n - i) dc ⟨b,off + i * 3,none⟩ (n - i) sc R1 91 (cs.drop (i * 3)) ha hsz hg1 (by rw [hm,hdl]) (fun j v hj=>by
   rw [Addr.add_lit,Nat.add_assoc]
   rw [f₂] at hj
   have h1:=hOb (w.alloc (.cells ROW 91)).drew rfl b _ v hbw (hcs _ v hj)
   have h2:(((w.alloc (.cells ROW 91)).drew.setRow w.heap.size R1)).cell? ⟨b,off + (i * 3 + j),none⟩=some v:=(cell_setRow_other _ _ _ _ (Nat.ne_of_lt hbw)).trans h1
   unfold World.cell? at h2 ⊢
   rw [hW]
   exact h2) om (fun v hv=>h1c v (d₁ hv))
  rw [hm,hdl] at h
  exact h
 have hw1:IntKind.i64.wrap ((i:Int) + 1)=(i:Int) + 1:=by rw [IntKind.wrap_i64];omega
 have hw2:IntKind.i64.wrap ((n:Int) + 1)=(n:Int) + 1:=by rw [IntKind.wrap_i64];omega
 have hb1:(0:Int)≤(i:Int) + 1:=om
 have hin:i≤n:=om
 have htn:((i:Int) + 1).toNat=i + 1:=om
 have hb3:(i:Int)≤(n:Int):=om
 have hGi: ¬ (G=i):=om
 have hGim: ¬ (G=i + 1):=om
 have hci: ¬ (c=i):=om
 have hpre:(cs.take (i * 3))=ROW.toList.take (i * 3):=by
  rw [hROW,Array.toList_append,Array.toList_append,c₁,a₅ (by simp;omega),List.toList_toArray,g₈,Nat.min_self]
 have hR1p:R1.toList.take ((i + 1) * 3)=cs.take (i * 3) ++ vs:=by
  rw [hR1,← hpre]
  have h1:(cs.take (i * 3)).length=i * 3:=by simp;omega
  show List.take _ (cs.take (i * 3) ++ vs ++ _)=_
  rw [a₅ (by simp;omega),List.take_of_length_le (by simp;omega)]
 obtain⟨R2,hR2⟩: ∃R2,R2=(R1.toList.take ((i + 1) * 3) ++ cs.drop (i * 3) ++ R1.toList.drop ((i + 1) * 3 + (n - i) * 3)).toArray:=⟨_,rfl⟩
 rw [← hR2] at hcpB
 have hR2l:R2.size=G * 3:=by
  rw [hR2]
  simp
  omega
 have hR2p:(cs.take (i * 3) ++ vs ++ cs.drop (i * 3)) <+:R2.toList:=by
  rw [hR2,hR1p]
  exact f₃ _ _
 have mixed:Tryz.prog.follows Departure.mixedOrders=true:=by kernel_rfl
 clear hkk hik hold hROW hG hR1 hR2 hpre hR1p
 go_enter Tryz.func139,Tryz.ntmps139
 have hA0:=hcpA (w.alloc (.cells ROW 91)).drew rfl
 have hB0:=hcpB ((w.alloc (.cells ROW 91)).drew.setRow w.heap.size R1).drew rfl
 go_wp2_with (first
  | (at_builtin;refine Lib.wpList_append_run _ rfl _ _ _ _ rfl _ _ rfl rfl _ _ (hrz _) ?_)
  | (at_builtin;refine kH _ rfl _ _ 22 22 rfl _ _ rfl rfl (hA0 _ _) ?_))
 go_region_law_o (refine mO rfl _ _ 22 22 rfl _ _ (by simp [Act.eval,Act.put]) (by simp [Act.eval,Act.put]) (hB0 _ _ _) ?_)
 go_wp2
 go_ret
 exact⟨G,hGn,hG63,R2,hR2l,hR2p,rfl,R1,ROW,rfl⟩
set_option maxRecDepth 100000 in
theorem FH (b n c i vb vc:Nat) (cs vs:List Value) (cur curv:Array Value) (tv:TypeId) (w:World) (hi:i < n) (hroom:n + 1≤c) (hc63:c≤maxLen) (hvb:vb≠b)
  (hg:w.heap[b]? =some (.cells cur 91 (0,0))) (hcz:cur.size=c * 3) (hgv:w.heap[vb]? =some (.cells curv tv (0,0)))
  (hcl:cs.length=n * 3) (hvl:vs.length=3) (hcp:cs <+:cur.toList)
  (hvs: ∀j v,vs[j]? =some v→w.cell? ⟨vb,j,none⟩=some v) (h1c: ∀v∈cs,v.oneCell'=true) (h1v: ∀v∈vs,v.oneCell'=true) :
  Calls Tryz.prog 139 #[.slice (some ⟨b,0,none⟩) n c, .int .i64 i, .slice (some ⟨vb,0,none⟩) 1 vc] w fun e w'=>
   ∃ROW:Array Value,ROW.size=c * 3∧(cs.take (i * 3) ++ vs ++ cs.drop (i * 3)) <+:ROW.toList∧
   e= .returned (.slice (some ⟨b,0,none⟩) (n + 1) c)∧
   ∃R1,w'=(w.drew.setRow b R1).setRow b ROW:=by
 obtain⟨i0,hi0,hz0,hzs,hzb⟩:=rX
 have ha:Tryz.prog.underlying 22=some (.slice 91):=AO
 have hint:Tryz.prog.underlying 3=some (.int .i64):=DI
 have u22:=run_underlying ha
 have u3:=run_underlying hint
 unfold maxLen at hc63
 have hz2: ¬ ((i:Int)=(n:Int)):=om
 have hsz:(Tryz.prog.info? 91).map (·.size)=some 3:=by rw [hi0];simp [hzs]
 have hso: ∀w,(Go.sizeOf 91).run Tryz.prog w= .ok 3 w:=fun w=>by simp [sizeOf,typeInfo,hi0,hzs]
 have hsa:w.shape? vb=some (tv,curv.size):=by simp [World.shape?,hgv]
 have hsb:w.shape? b=some (91,c * 3):=by simp [World.shape?,hg,hcz]
 have hfa: ∀k,w.frozen? ⟨vb,k,none⟩=false:=fun k=>by simp [World.frozen?,hgv]
 have hov: ∀lb cb,(callFunc 200 #[.slice (some ⟨vb,0,none⟩) 1 vc, .slice (some ⟨b,(i + 1) * 3,none⟩) lb cb]).run Tryz.prog w= .ok (.value (.bool false)) w:=fun lb cb=>by
  rw [run_callFunc_extern Tryz.func200 (by kernel_rfl) (by kernel_rfl) (by kernel_rfl) (e:=Extern.SlicesOverlaps.overlaps #[22,22] #[4]) (by kernel_rfl),
   Lib.run_overlaps_apart w 22 4 91 ha 3 hso ⟨vb,0,none⟩ ⟨b,(i + 1) * 3,none⟩ 1 vc lb cb hvb tv 91 curv.size (c * 3) hsa hsb om (hfa 0) (hfa _)]
  rfl
 obtain⟨tl,htl⟩:=hcp
 have hct:cur.toList.length=c * 3:=by rw [Array.length_toList];exact hcz
 have hdl:(cs.drop (i * 3)).length=(n - i) * 3:=by rw [d₈,hcl];omega
 have hcell: ∀(W:World),W.heap=w.heap→∀j v,cs[j]? =some v→W.cell? ⟨b,j,none⟩=some v:=fun W hW j v hj=>by
  have h1:cur[j]? =some v:=by
   rw [← Array.getElem?_toList,← htl,List.getElem?_append_left (b₉.1 hj).1]
   exact hj
  unfold World.cell?
  rw [hW,hg]
  exact h1
 have hcpA: ∀(W:World),W.heap=w.heap→∀ty dc sc,(Builtin.copy_ #[22,22] ty #[.slice (some ⟨b,(i + 1) * 3,none⟩) (n - i) dc, .slice (some ⟨b,i * 3,none⟩) (n + 1 - i) sc]).run Tryz.prog W= .ok (goInt (n - i:Nat)) (W.setRow b (cur.toList.take ((i + 1) * 3) ++ cs.drop (i * 3) ++ cur.toList.drop ((i + 1) * 3 + (n - i) * 3)).toArray):=fun W hW ty dc sc=>by
  have hm:e₈ (n + 1 - i) (n - i)=n - i:=by simp only [d₄];split <;> omega
  have h:=ij W 22 22 ty 91 3 b ((i + 1) * 3) (n - i) dc ⟨b,i * 3,none⟩ (n + 1 - i) sc cur 91 (cs.drop (i * 3)) ha hsz (by rw [hW];exact hg) (by rw [hm,hdl]) (fun j v hj=>by
   rw [Addr.add_lit]
   rw [f₂] at hj
   exact hcell W hW _ v hj) om (fun v hv=>h1c v (d₁ hv))
  rw [hm,hdl] at h
  exact h
 obtain⟨R1,hR1⟩: ∃R1,R1=(cur.toList.take ((i + 1) * 3) ++ cs.drop (i * 3) ++ cur.toList.drop ((i + 1) * 3 + (n - i) * 3)).toArray:=⟨_,rfl⟩
 rw [← hR1] at hcpA
 have hR1l:R1.size=c * 3:=by
  rw [hR1]
  simp
  omega
 have hcpB: ∀(W:World),W.heap=(w.drew.setRow b R1).heap→∀ty dc,(Builtin.copy_ #[22,22] ty #[.slice (some ⟨b,i * 3,none⟩) (n + 1 - i) dc, .slice (some ⟨vb,0,none⟩) 1 vc]).run Tryz.prog W= .ok (goInt 1) (W.setRow b (R1.toList.take (i * 3) ++ vs ++ R1.toList.drop (i * 3 + 3)).toArray):=fun W hW ty dc=>by
  have hm:e₈ 1 (n + 1 - i)=1:=by simp only [d₄];split <;> omega
  have hg1:W.heap[b]? =some (.cells R1 91 (0,0)):=by
   rw [hW]
   exact setRow_heap _ b cur R1 91 (0,0) hg
  have h:=ij W 22 22 ty 91 3 b (i * 3) (n + 1 - i) dc ⟨vb,0,none⟩ 1 vc R1 91 vs ha hsz hg1 (by rw [hm,hvl]) (fun j v hj=>by
   rw [Addr.add_lit,b₆]
   have h2:(w.drew.setRow b R1).cell? ⟨vb,j,none⟩=some v:=(cell_setRow_other _ _ _ _ hvb).trans (hvs j v hj)
   unfold World.cell? at h2 ⊢
   rw [hW]
   exact h2) om h1v
  rw [hm,hvl] at h
  exact h
 obtain⟨R2,hR2⟩: ∃R2,R2=(R1.toList.take (i * 3) ++ vs ++ R1.toList.drop (i * 3 + 3)).toArray:=⟨_,rfl⟩
 rw [← hR2] at hcpB
 have hR2l:R2.size=c * 3:=by
  rw [hR2]
  simp
  omega
 have hp1:R1.toList.take (i * 3)=cs.take (i * 3):=by
  rw [hR1]
  show List.take _ (cur.toList.take ((i + 1) * 3) ++ cs.drop (i * 3) ++ _)=_
  rw [c₁,a₅ (by simp;omega),g₈,← htl,a₅ om]
  congr 1
  simp only [d₄]
  split <;> omega
 have hp2:cs.drop (i * 3) <+:R1.toList.drop (i * 3 + 3):=by
  rw [hR1]
  show _ <+:List.drop _ (cur.toList.take ((i + 1) * 3) ++ cs.drop (i * 3) ++ _)
  have hl:(cur.toList.take ((i + 1) * 3)).length=i * 3 + 3:=by rw [c₅,hct,e₀ om];omega
  rw [c₁,List.drop_left' hl]
  exact f₃ _ _
 have hR2p:(cs.take (i * 3) ++ vs ++ cs.drop (i * 3)) <+:R2.toList:=by
  rw [hR2,hp1]
  obtain⟨z,hz⟩:=hp2
  rw [← hz]
  exact⟨z,sm⟩
 have hw1:IntKind.i64.wrap ((i:Int) + 1)=(i:Int) + 1:=by rw [IntKind.wrap_i64];omega
 have hw2:IntKind.i64.wrap ((n:Int) + 1)=(n:Int) + 1:=by rw [IntKind.wrap_i64];omega
 have hb1:(0:Int)≤(i:Int) + 1:=om
 have hb0:(0:Int)≤(n:Int) + 1:=om
 have hin:i≤n:=om
 have htn:((i:Int) + 1).toNat=i + 1:=om
 have htm:((n:Int) + 1).toNat=n + 1:=om
 have hb3:(i:Int)≤(n:Int) + 1:=om
 have hci: ¬ (c=i):=om
 have hcim: ¬ (c=i + 1):=om
 have mixed:Tryz.prog.follows Departure.mixedOrders=true:=by kernel_rfl
 have hA0:=hcpA w.drew rfl
 have hB0:=hcpB (w.drew.setRow b R1) rfl
 clear hR1 hR2 hp1 hp2 htl hcell
 go_enter Tryz.func139,Tryz.ntmps139
 go_wp2_with (simp only [hov])
 go_region_law_o (refine mO rfl _ _ 22 22 rfl _ _ (by simp [Act.eval,Act.put]) (by simp [Act.eval,Act.put]) (hA0 _ _ _) ?_)
 go_wp2_with (at_builtin;refine kH _ rfl _ _ 22 22 rfl _ _ rfl rfl (hB0 _ _) ?_)
 go_ret
 exact⟨R2,hR2l,hR2p,rfl,R1,rfl⟩
end
section
open Go.RowKit Go.Lib
variable {G:GS}
attribute [local irreducible] ak aB aD aI aN vC aW aw
theorem AP {α β:Type} {R:α→β→Prop} {x0:α} {p0:β} (h0:R x0 p0): ∀(i:Nat) {L:List α} {Q:List β},Q.length=L.length→(∀(j:Nat) x p,L[j]? =some x→Q[j]? =some p→R x p)→∀(j:Nat) x p,(L.take i ++ x0 :: L.drop i)[j]? =some x→(Q.take i ++ p0 :: Q.drop i)[j]? =some p→R x p
 | 0,L,Q,hl,h,j,x,p,hx,hp=>by
  cases j with
  | zero=>simp at hx hp;subst hx;subst hp;exact h0
  | succ j=>exact h j x p (by simpa using hx) (by simpa using hp)
 | i + 1,[],[],hl,h,j,x,p,hx,hp=>by
  cases j with
  | zero=>simp at hx hp;subst hx;subst hp;exact h0
  | succ j=>simp at hx
 | i + 1,[],q :: Q,hl,_,_,_,_,_,_=>by simp at hl
 | i + 1,y :: L,[],hl,_,_,_,_,_,_=>by simp at hl
 | i + 1,y :: L,q :: Q,hl,h,j,x,p,hx,hp=>by
  cases j with
  | zero=>exact h 0 x p (by simpa using hx) (by simpa using hp)
  | succ j=>exact AP h0 i (by simpa using hl) (fun k u v hu hv=>h (k + 1) u v (by simpa using hu) (by simpa using hv)) j x p (by simpa using hx) (by simpa using hp)
theorem wR {Q:List (List Value)}:(∀p∈Q,p.length=3)→Q.flatten.length=Q.length * 3:=by
 induction Q with
 | nil=>intro _;rfl
 | cons q Q ih=>
  intro h;rw [b₅,d₅,ih fun p hp=>h p (b₇ _ hp),h q (a₇ ..),g₀];omega
theorem oC: ∀(i:Nat) {Q:List (List Value)},(∀p∈Q,p.length=3)→(Q.take i).flatten=Q.flatten.take (i * 3)∧(Q.drop i).flatten=Q.flatten.drop (i * 3)
 | 0,Q,_=>by simp
 | i + 1,[],_=>by simp
 | i + 1,q :: Q,h=>by
  have hq:=h q (a₇ ..)
  obtain⟨h1,h2⟩:=oC i (Q:=Q) fun p hp=>h p (b₇ _ hp)
  rw [List.take_succ_cons,List.drop_succ_cons,b₅,b₅,h1,h2,show (i + 1) * 3=q.length + i * 3 by omega,List.take_length_add_append,List.drop_length_add_append]
  exact⟨rfl,rfl⟩
theorem FI {w:World} {P:bT} {adr:fV} {L:List MV} {Q:List (List Value)} (hl:Q.length=L.length) (h: ∀(j:Nat) x p,L[j]? =some x→Q[j]? =some p→cS w P adr x p): ∀v∈Q.flatten,v.oneCell'=true:=by
 intro v hv;obtain⟨p,hp,hvp⟩:=List.mem_flatten.1 hv;obtain⟨j,hj⟩:=List.getElem?_of_mem hp;have hjl:=(b₉.1 hj).1;exact(h j _ p (b₁ om) hj).one v hvp
theorem wS {B g:Nat} {w0 w:World} (hb:Below B w0 w) (hBg:B≤g) (cs:Array Value):Below B w0 (w.setRow g cs):=
 ⟨hb.os,hb.tape,hb.output,by rw [setRow_size];exact hb.size,fun k hk=>(setRow_other _ _ _ _ om).trans (hb.block k hk)⟩
theorem wT {ex:Fp} {w:World} {g:Nat} (c:Array Value) (hx:ex g):cG ex w (w.setRow g c):=⟨rfl,rfl,rfl,sm,fun b _ hne=>setRow_other _ _ _ _ fun e=>hne (e▸hx)⟩
theorem uZ {w:World} {g:Nat} {cur:Array Value} {ty:TypeId} (hg:w.heap[g]? =some (.cells cur ty (0,0))) {cs:List Value} (hp:cs <+:cur.toList) {j:Nat} {v:Value} (hj:cs[j]? =some v):w.cell? ⟨g,j,none⟩=some v:=by
 have h1:cur[j]? =some v:=by rw [← Array.getElem?_toList];exact dW hp hj
 unfold World.cell?;rw [hg];exact h1
theorem DJ {b0:MB} {c:Nat} {b:MB} (h:VM.get [(2,b0)] c=some b):aO (fun _=>none) 2 b0 c=some b:=by
 rw [VM.get_cons] at h;by_cases e:c=2
 ·subst e;rw [aH];exact h
 ·rw [if_neg (Ne.symm e)] at h;cases h
theorem I5 {w:World} {P:bT} {adr:fV} {m:FM} (h:aX w P adr m):aX w.drew P adr m∧bG w w.drew P P adr adr:=by
 have k:bG w w.drew P P adr adr:=⟨fun _ _ h=>h,fun _ _ _=>rfl,fun _ _ h=>h,fun _ _ cur _ _ h=>⟨cur,h,rfl⟩⟩;refine⟨⟨fun c b hc=>?_,h.inj,h.prot⟩,k⟩;rcases h.blk c b hc with h1 | ⟨g,h1,h2⟩
 ·exact .inl h1
 ·exact .inr ⟨g,h1,h2.keep k rfl fun _ h=>h⟩
theorem FJ (l:List bf) (a:bf) (i:Nat) (hi:i < l.length) (hl:l.length≤100000):aQ Tryz.prog G 139 [.ms 0 3 0 l.length, .int .i64 i, .ms 1 3 0 1] [(0,di l),(1,di [a])] 2 (.ms 2 3 0 (l.length + 1)) [(2,di (l.take i ++ a :: l.drop i))] 3:=by
 intro w P adr vals hg hI hn hL hargs;cases hargs with | cons a1 hargs=>cases hargs with | cons a2 hargs=>cases hargs with | cons a3 hargs=>
 cases hargs;have e2:=a2.int_;subst e2;rcases a1.ms_ with ⟨_,_,h0⟩ | ⟨g,o,cap,hg1,rfl,ho,hcap,hcm,cur0,ty0,hw0,hsz0⟩
 ·omega
 rcases a3.ms_ with ⟨_,_,h0⟩ | ⟨gv,ov,capv,hg3,rfl,hov,hcapv,_,_⟩
 ·omega
 have ho:o=0:=by simpa using ho (.inr rfl)
 subst ho;have hov:ov=0:=by simpa using hov (.inr rfl)
 subst hov;have hsz0:=hsz0 rfl
 -- what memory holds
 rcases hI.blk 0 (di l) rfl with ⟨_,h2,_⟩ | ⟨g',h1,h2⟩
 ·have:(di l).l.length=0:=by rw [h2];rfl
  rw [show (di l).l.length=l.length from d₂ _] at this;omega
 rw [hg1] at h1;injection h1 with h1
 subst h1;obtain⟨cur,Q,hw,hQl,hQ3,hQr,hQp⟩:=h2.ofR rfl;rcases hI.blk 1 (di [a]) rfl with ⟨_,h3,_⟩ | ⟨g',h1,h3⟩
 ·cases h3
 rw [hg3] at h1;injection h1 with h1
 subst h1;obtain⟨curv,V,hwv,hVl,hV3,hVr,hVp⟩:=h3.ofR rfl;have hne:gv≠g:=fun e=>absurd (hI.inj 1 0 _ _ g rfl rfl (by rw [← e];exact hg3) hg1) (by decide)
 rw [hw0] at hw;injection hw with hw
 injection hw with hw ht
 subst hw;subst ht;have hQl:Q.length=(l.map aT).length:=hQl;have hVl:V.length=1:=hVl;obtain⟨p,rfl⟩: ∃p,V= [p] :=by
  match V,hVl with
  | [p],_=>exact ⟨p,rfl⟩
 have hp3:p.length=3:=hV3 p sm;have hpr:cS w P noAdr (aT a) p:=hVr 0 _ _ rfl rfl;rw [b₅,List.flatten_nil,g₅] at hVp;have hQr: ∀(j:Nat) x p,(l.map aT)[j]? =some x→Q[j]? =some p→cS w P noAdr x p:=hQr
 have hQ3: ∀p∈Q,p.length=3:=hQ3
 have hcl:Q.flatten.length=l.length * 3:=by rw [wR hQ3,hQl,d₂]
 have h1c:=FI hQl hQr;have h1v: ∀v∈p,v.oneCell'=true:=hpr.one
 have hvs: ∀j v,p[j]? =some v→w.cell? ⟨gv,j,none⟩=some v:=fun j v hj=>uZ hwv hVp hj
 -- the row behind it
 have hQn: ∀(j:Nat) x q,((l.take i ++ a :: l.drop i).map aT)[j]? =some x→(Q.take i ++ p :: Q.drop i)[j]? =some q→cS w P noAdr x q:=by
  rw [e₁,c₃,List.map_take,List.map_drop];exact AP hpr i hQl hQr
 have hQn3: ∀q∈Q.take i ++ p :: Q.drop i,q.length=3:=by
  intro q hq;rcases List.mem_append.1 hq with h | h
  ·exact hQ3 q (List.mem_of_mem_take h)
  ·rcases a₂.1 h with rfl | h
   ·exact hp3
   ·exact hQ3 q (d₁ h)
 have hQnl:(Q.take i ++ p :: Q.drop i).length=((l.take i ++ a :: l.drop i).map aT).length:=by
  simp only [d₅,g₀,c₅,d₈,d₂];rw [hQl,d₂]
 have hQnf:(Q.take i ++ p :: Q.drop i).flatten=Q.flatten.take (i * 3) ++ p ++ Q.flatten.drop (i * 3):=by
  rw [List.flatten_append,b₅,(oC i hQ3).1,(oC i hQ3).2,c₁]
 have h2n:=hn 2 (a₆ _);by_cases hroom:cap < l.length + 1
 ·refine(I4 g 0 l.length cap i gv 0 capv Q.flatten p w hi hcap hroom om hcl hp3 (fun j v hj=>by rw [b₆];exact uZ hw0 hQp hj) (fun j v hj=>by rw [b₆];exact hvs j v hj) h1c h1v).mono ?_;rintro e w' ⟨C,hC1,hC2,ROW,hR,hRp,rfl,R1,R0,rfl⟩;have hb:Below w.heap.size w ((((w.alloc (.cells R0 91)).drew.setRow w.heap.size R1).drew).setRow w.heap.size ROW):=
   wS (wS (Below.alloc1 w _).drew (a₆ _) _).drew (a₆ _) _
  have hgn:((((w.alloc (.cells R0 91)).drew.setRow w.heap.size R1).drew).setRow w.heap.size ROW).heap[w.heap.size]? =some (.cells ROW 91 (0,0)):=
   setRow_heap _ _ R1 ROW _ _ (setRow_heap _ _ R0 R1 _ _ (heap_alloc_new w _))
  generalize ((((w.alloc (.cells R0 91)).drew.setRow w.heap.size R1).drew).setRow w.heap.size ROW)=w' at *;have hI0:aX w P adr (fun _=>none):=hI.sub fun c b hc=>nomatch hc
  obtain⟨k1,k2⟩:=hI0.new (b:=di (l.take i ++ a :: l.drop i)) h2n rfl hb hgn hQnl hQn3 (fun j x q hx hq=>hQn j x q hx hq) (by rw [hQnf];exact hRp) (b₀ _);refine⟨_,rfl,P,aO adr 2 w.heap.size,k1.sub fun c b hc=>?_, .val [_] (.ms w.heap.size 0 C (aH _ _ _) (fun _=>by simp) hC1 hC2 ⟨ROW,_,hgn,fun _=>hR⟩),k2,fun c hc=>aJ _ _ om,fun c hc=>?_,fun c g hc=>?_,fun b o hb=> .inl hb,(cG.of_below hb).weak fun _ e=>e.elim⟩
  ·exact DJ hc
  ·rw [aJ _ _ om];exact hn c om
  ·by_cases e:c=2
   ·subst e;rw [aH] at hc;injection hc with hc
    exact .inl om
   ·rw [aJ _ _ e] at hc;exact .inr ⟨c,hc⟩
 ·refine(FH g l.length cap i gv capv Q.flatten p cur0 curv _ w hi om hcm hne hw0 hsz0 hwv hcl hp3 hQp hvs h1c h1v).mono ?_;rintro e w' ⟨ROW,hR,hRp,rfl,R1,rfl⟩;rw [setRow_setRow];obtain⟨hI1,hk1⟩:=I5 hI;have hI2:aX w.drew P adr (aO (fun _=>none) 0 (di l)):=hI1.sub fun c b hc=>by
   by_cases e:c=0
   ·subst e;rw [aH] at hc;exact hc
   ·rw [aJ _ _ e] at hc;cases hc
  have hpg: ∀o,¬ P g o:=fun o ho=>absurd (h2.pe o ho) (e₂ _)
  have hsz:ROW.size=cur0.size:=by rw [hR,hsz0]
  obtain⟨k1,k2⟩:=hI2.write (c:=0) (g:=g) (b:=di l) (b':=di (l.take i ++ a :: l.drop i)) (cur:=cur0) (cur':=ROW) (by show(l.map aT).length≤((l.take i ++ a :: l.drop i).map aT).length;simp;omega) (aH _ _ _) hg1 rfl rfl rfl hw0 hsz (fun o ho=>absurd ho (hpg o)) hQnl hQn3 (fun j x q hx hq=>(hQn j x q hx hq).keep hk1.free) (by rw [hQnf];exact hRp);have e0:aO (aO (fun _=>none) 0 (di l)) 0 (di (l.take i ++ a :: l.drop i))=aO (fun _=>none) 0 (di (l.take i ++ a :: l.drop i)):=by
   funext x;by_cases e:x=0
   ·subst e;rw [aH,aH]
   ·rw [aJ _ _ e,aJ _ _ e,aJ _ _ e]
  rw [e0] at k1;obtain⟨k3,k4⟩:=k1.rename (d:=2) hg1 h2n rfl;have hkk:=(hk1.trans k2).trans k4;refine⟨_,rfl,P,aO adr 2 g,k3.sub fun c b hc=>?_, .val [_] (.ms g 0 cap (aH _ _ _) (fun _=>by simp) om hcm ⟨ROW,_,setRow_heap _ _ cur0 ROW _ _ hw0,fun _=>hR⟩),hkk,fun c hc=>aJ _ _ om,fun c hc=>?_,fun c g' hc=>?_,fun b o hb=> .inl hb,?_⟩
  ·have:=DJ hc;by_cases e:c=2
   ·subst e;rw [aH] at this ⊢;exact this
   ·rw [aJ _ _ e] at this;cases this
  ·rw [aJ _ _ om];exact hn c om
  ·by_cases e:c=2
   ·subst e;rw [aH] at hc;injection hc with hc
    exact .inr ⟨0,by rw [← hc];exact hg1⟩
   ·rw [aJ _ _ e] at hc;exact .inr ⟨c,hc⟩
  ·have hs:=wT (w:=w.drew) (ex:=fun b=> ∃c0,adr c0=some b) (g:=g) ROW ⟨0,hg1⟩;exact⟨hs.os,hs.tape,hs.output,hs.size,hs.block⟩
end
end Go.Proofs.YtohikcplmbkmeaaGreatDoor
