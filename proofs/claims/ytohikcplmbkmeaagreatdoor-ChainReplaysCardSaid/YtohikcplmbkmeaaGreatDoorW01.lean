/- Parts of a proof. -/
import Derived.WalkKit
import Derived.ProofKit
import Derived.OpenShut
import Derived.OwnWalk
import Derived.Deep.QuietTactic
import Derived.BigQuiet
import Derived.Deep.LoopGhost
import Derived.Deep.MidRow
import Derived.Deep.WholeRow
import Derived.Deep.Slices
import Derived.Lib.Hide
import GoSem.ClaimJoined
import Derived.Orders
import Derived.OrdersHeld
import Derived.Shelf.Abstract
import Derived.ChangeKeysEq
import Derived.Laws.IdiomStrings
import Derived.MapKept
import Derived.Test.YtohikcplmbkmeaaGreatDoorRows
import Derived.Test.YtohikcplmbkmeaaGreatDoorProg
import Derived.Shelf.Small.Bits
import Derived.Shelf.Strconv.Itoa0
import Derived.Shelf.Unicode.DecodeSlow
import Derived.Shelf.Unicode.DecodeAny
import Derived.Test.YtohikcplmbkmeaaGreatDoorCards
import Derived.Test.YtohikcplmbkmeaaGreatDoorTie
import Derived.Deep.DeepHandedRow
import Derived.Lib.LaidU8T
import Derived.Lay
import Derived.Stop.LaidErr
import Derived.Stop.Joined
import Derived.Shelf.SlSortCmp.WholeK
import Derived.Laws.Externs
import Derived.Lib.ItoaNum
import Derived.Shelf.SlSortCmp.QuietGrown
import Derived.Shelf.GgSortFunc.InsertionK
import Derived.Lib.Walk
import Derived.Shelf.RegionOpenPlain
import Derived.Lib.SliceRun
import Derived.Lib.JoinLaws
import Derived.Lib.AppendZeros
import Derived.Lib.Overlaps
import Derived.Lib.AppendZerosOnto
import Derived.Laws.NewBlocks
import Derived.Laws.IdiomCopy
import Derived.Shelf.SlSortCmp.InsertionK
open Nat renaming eq_of_beq_eq_true → a₀,beq → a₂,min_eq_left → b₉,le_of_ble_eq_true → c₇,mul_le_mul_right → c₈,ble → d₃,add_mul → d₇,zero_le → d₈,le_refl → e₉,add_assoc → f₀,blt → f₃,succ_mul → f₄,blt_eq → g₁,lt_of_lt_of_le → g₇,add_zero → g₉,zero_add → h₁,mod_eq_of_lt → h₄
open Bool renaming and_eq_true → a₁,false_eq_true → c₃,not_eq_true' → h₂
open List renaming getElem?_eq_getElem → a₃,getElem?_eq_some_iff → a₄,length_append → a₅,eq_nil_of_length_eq_zero → a₆,length_take → a₇,length → a₈,mem_of_getElem? → a₉,flatten_cons → b₀,getElem?_map → b₁,getElem?_append_left → b₂,replicate → b₃,mem_of_mem_take → b₄,append_assoc → b₅,mem_replicate → b₆,all_eq_true → b₇,getElem?_append_right → b₈,size_toArray → c₀,length_map → c₁,length_drop → c₂,getElem?_take → c₄,getElem?_drop → c₅,take_append_drop → c₆,append_nil → c₉,ext_getElem? → d₂,mem_cons_of_mem → d₄,mem_iff_getElem → d₅,mem_cons → d₆,take_succ_cons → d₉,replicate_succ → e₀,mem_cons_self → e₁,take_left → e₂,getElem?_set → e₃,take_of_length_le → e₄,map_cons → e₅,getElem?_eq_none → e₆,length_flatten → e₇,drop_left → e₈,drop_eq_getElem_cons → f₁,mem_or_eq_of_mem_set → f₂,mem_flatten → f₅,mem_map → f₆,getElem?_replicate → f₇,foldr_cons → f₈,sum_replicate_nat → f₉,getElem?_append → g₀,mem_of_mem_drop → g₂,take_replicate → g₃,drop_succ_cons → g₄,flatten_append → g₅,set_cons_succ → g₆,extract → g₈,map_replicate → h₀,length_cons → h₃,getElem_mem → h₅,append_inj → h₆,map_append → h₇,mem_range → h₈
open Option renaming map_eq_some_iff → d₀
open Int renaming toNat_natCast → d₁
set_option maxRecDepth 20000
set_option maxHeartbeats 16000000
set_option linter.unusedVariables false
set_option linter.unusedSimpArgs false
namespace Go.Proofs.YtohikcplmbkmeaaGreatDoor
open Go.RowKit
theorem om {p:Prop} (h:p:=by omega):p:=h
theorem sm {p:Prop} (h:p:=by simp):p:=h
theorem dm {p:Prop} (h:p:=by dsimp only;omega):p:=h
theorem ot {p:Prop} [Decidable p] (h:decide p=true):p:=of_decide_eq_true h
abbrev ae (n:Nat):Nat×Bool:=(n,false)
abbrev dF (n:Nat):Nat×Bool:=(n,true)
theorem oF {p:Prop} [Decidable p] (h:decide p=false): ¬p:=of_decide_eq_false h
theorem bx:(∀{p:Prop} [Decidable p],(decide p=true)=p)∧(∀{p:Prop} [Decidable p],(decide p=false)↔ ¬p)∧(∀{α:Type} [BEq α] [LawfulBEq α] {a b:α},(a == b)=true↔a=b)∧(∀{α:Type} [BEq α] [LawfulBEq α] {a b:α},(a !=b)=true↔a≠b)∧(∀{α:Type} (a b:α),(a≠b)= ¬(a=b))∧((!true)=false)∧((!false)=true)∧(∀{α:Type} [BEq α] [LawfulBEq α] {a b:α},(a == b)=false↔a≠b)∧(∀{α:Type} [BEq α] [LawfulBEq α] {a b:α},(a !=b)=false↔a=b)∧(∀(b:Bool),(¬b=true)=(b=false))∧(∀(b:Bool),(¬b=false)=(b=true))∧(∀{a b:Bool},(!a)=b↔a= !b):=
 ⟨decide_eq_true_eq,decide_eq_false_iff_not,beq_iff_eq,bne_iff_ne,ne_eq,Bool.not_true,Bool.not_false,beq_eq_false_iff_ne,bne_eq_false_iff_eq,Bool.not_eq_true,Bool.not_eq_false,Bool.not_eq_eq_eq_not⟩
section
abbrev Fp:=Nat→Prop
theorem qB {w w':World} {b o:Nat} {cs:List Value} (h:w.rangeAt b o cs) (hw:b < w.heap.size→w'.heap[b]? =w.heap[b]?):w'.rangeAt b o cs:=fun j v hv=>by
 have hc:=h j v hv;have eS:=World.block_lt_of_cell? w _ hc;rw [World.cell?_of_block (w:=w) (w':=w') (hw eS)];exact hc
def Blk (w:World) (g:Nat) (t:TypeId) (cs:Array Value):Prop:=w.heap[g]? =some (.cells cs t (0,0))
end
section
open Go.RowKit Go.ChangeShapes Go.Deep
theorem BJ:reachBytes≤140737488355328:=by decide
theorem vn {H:Type} {P:Program} {e:TypeId} {l:List (DataW H)} (h:(DataW.weightsAll P e l).all (· ≤reachBytes)=true) {d:DataW H} (hd:d∈l):(d.weights P e).all (· ≤reachBytes)=true:=by
 induction l with
 | nil=>cases hd
 | cons x l ih=>
  simp only [DataW.weightsAll,List.all_append,a₁] at h;rcases d₆.1 hd with rfl | hd
  ·exact h.1
  ·exact ih h.2 hd
end
section
inductive SV where
 | val (v:Value)
 | ptr (i g off:Nat)
 | lit (b:Bool)
 deriving Inhabited
structure KB where
 g:Nat
 t:TypeId
 cs:List SV
abbrev Kv:=List (Nat×KB)
abbrev Vq:=List (Nat×SV)
abbrev OM:=List (World×Fp)
def Kv.find:Kv→Nat→Option KB
 | [],_=>none
 | (j,kb) :: M,i=>bif a₂ j i then some kb else Kv.find M i
def Vq.get:Vq→Nat→Option SV
 | [],_=>none
 | (j,v) :: E,i=>bif a₂ j i then some v else Vq.get E i
def SV.den:SV→Value
 | .val v=>v
 | .ptr _ g off=> .pointer (some ⟨g,off,none⟩)
 | .lit b=> .bool b
structure db (ex:Fp) (h w:World):Prop where
 os:w.os=h.os
 tape:w.tape=h.tape
 output:w.output=h.output
 size:h.heap.size≤w.heap.size
 block: ∀b,b < h.heap.size→¬ ex b→w.heap[b]? =h.heap[b]?
structure A (M:Kv) (H:OM) (w:World):Prop where
 blk: ∀i kb,M.find i=some kb→Blk w kb.g kb.t (kb.cs.map SV.den).toArray
 apart: ∀i j ki kj,M.find i=some ki→M.find j=some kj→i≠j→ki.g≠kj.g
 since: ∀p∈H,db p.2 p.1 w
 fresh: ∀p∈H,∀i kb,M.find i=some kb→p.2 kb.g∨p.1.heap.size≤kb.g
def ev (E:Vq):Operand→Option SV
 | .tmp t=>E.get t
 | .const v=>some (.val v)
 | .global g=>some (.val (.pointer (some ⟨g,0,none⟩)))
 | .func f=>some (.val (.func (.func f) #[] #[]))
theorem ir {d t:Nat} (h: ¬ d=t):a₂ d t=false:=by
 cases hb:a₂ d t with
 | false=>rfl
 | true=>exact absurd (a₀ hb) h
theorem db.refl (ex:Fp) (w:World):db ex w w:=⟨rfl,rfl,rfl,e₉ _,fun _ _ _=>rfl⟩
theorem db.of_below {w w':World} (h:Below w.heap.size w w'):db (fun _=>False) w w':=⟨h.os,h.tape,h.output,h.size,fun b hb _=>h.block b hb⟩
theorem db.below {h w:World} (k:db (fun _=>False) h w):Below h.heap.size h w:=⟨k.os,k.tape,k.output,k.size,fun b hb=>k.block b hb (fun e=>e)⟩
end
section
inductive TD where
 | int (k:IntKind) | bool | str | ptr | iface
 | slice (e:TypeId) (es:Nat)
 | arr (n:Nat) (e:TypeId) (es:Nat)
 | struct (fs:List (Nat×TypeId)) (size:Nat)
 | fn
 | other
abbrev bD:=List (Nat×TD)
def bD.find:bD→Nat→Option TD
 | [],_=>none
 | (j,d) :: T,i=>bif a₂ j i then some d else bD.find T i
def TD.agg:TD→Bool | .arr .. | .struct .. =>true | _=>false
def TD.size:TD→Nat | .arr n _ es=>n * es | .struct _ s=>s | _=>1
def gF (P:Program) (t:TypeId) (n:Nat):Bool:=match P.info? t with | some i=>i.size == n | none=>false
def zX (P:Program) (t:TypeId):Bool:=match P.info? t with | some i=>decide (0 < i.size) | none=>false
def vp (P:Program):List (Nat×TypeId)→Nat→Bool
 | [],_=>true
 | (o,t) :: fs,n=>o == n && match P.info? t with | some i=>vp P fs (n + i.size) | none=>false
def TD.fitsB (P:Program) (t:TypeId) (d:TD):Bool:=
 gF P t d.size && match d,P.underlying t with
 | .int k,some (.int k')=>decide (k=k')
 | .bool,some .bool=>true
 | .str,some .string=>true
 | .ptr,some (.pointer _)=>true
 | .ptr,some .unsafePointer=>true
 | .iface,some (.interface _)=>true
 | .slice e es,some (.slice e')=>decide (e=e') && gF P e es
 | .arr n e es,some (.array n' e')=>decide (n=n') && decide (e=e') && gF P e es
 | .struct fs _,some (.struct fields)=>decide (fields.toList.map (fun f=>(f.offset,f.type))=fs) && fields.toList.all (fun f=>zX P f.type) && vp P fs 0
 | .fn,some (.func ..)=>true
 | .other,some d=>(match d with | .struct _ | .array _ _=>false | _=>true)
 | _,_=>false
def Zu:Value→Value→Bool
 | .int k a, .int j b=>decide (k=j) && decide (a=b)
 | .bool a, .bool b=>a == b
 | .string a, .string b=>decide (a.data=b.data)
 | .pointer none, .pointer none=>true
 | .slice none 0 0, .slice none 0 0=>true
 | .map none, .map none=>true
 | .nilFunc, .nilFunc=>true
 | .nilIface, .nilIface=>true
 | _,_=>false
theorem S6 {a b:Value} (h:Zu a b=true):a=b:=by
 unfold Zu at h;split at h <;> simp_all
 cases ‹ByteArray›;cases ‹ByteArray›;simp_all
def dq (T:bD):Nat→Nat→List SV→Option (List SV)
 | 0,_,_=>none
 | f + 1,t,acc=>match bD.find T t with
  | some (.int k)=>some (.val (.int k 0) :: acc)
  | some .bool=>some (.val (.bool false) :: acc)
  | some .str=>some (.val (.string ⟨#[]⟩) :: acc)
  | some .ptr=>some (.val (.pointer none) :: acc)
  | some .iface=>some (.val .nilIface :: acc)
  | some .fn=>some (.val .nilFunc :: acc)
  | some (.slice ..)=>some (.val (.slice none 0 0) :: acc)
  | some (.arr n e _)=>n.rec (some acc) (fun _ r=>match r with | some a=>dq T f e a | none=>none)
  | some (.struct fs _)=>fs.foldr (fun x r=>match r with | some a=>dq T f x.2 a | none=>none) (some acc)
  | _=>none
def zY:List SV→List Value→Bool
 | [],[] =>true
 | a :: x,b :: y=>Zu a.den b && zY x y
 | _,_=>false
theorem yH: ∀{x:List SV} {y:List Value},zY x y=true→x.map SV.den=y
 | [],[],_=>rfl
 | a :: x,b :: y,h=>by
  simp only [zY,a₁] at h
  simp [S6 h.1,yH h.2]
 | [],_ :: _,h=>by cases h
 | _ :: _,[],h=>by cases h
def Sa (P:Program) (T:bD) (t:TypeId):Bool:=
 match dq T 9 t [],(P.info? t).bind (·.zero) with
 | some z,some v=>zY z v.cells.toList
 | none,_=>true
 | _,_=>false
def Zv (P:Program) (T:bD):Bool:=T.all fun x=>x.2.fitsB P x.1 && Sa P T x.1
structure cZ (P:Program) (T:bD):Prop where
 all:Zv P T=true
theorem bD.find_mem: ∀{T:bD} {t:Nat} {d:TD},bD.find T t=some d→(t,d)∈T
 | (j,e) :: T,t,d,h=>by
  have h':(bif a₂ j t then some e else bD.find T t)=some d:=h
  by_cases hj:j=t
  ·subst hj;simp at h';subst h';exact e₁
  ·simp only [ir hj,cond_false] at h'
   exact d₄ _ (bD.find_mem h')
theorem cZ.fits {P:Program} {T:bD} (h:cZ P T) {t:Nat} {d:TD} (ht:bD.find T t=some d):d.fitsB P t=true:=by
 have:=b₇.1 h.all _ (bD.find_mem ht);simp only [a₁] at this;exact this.1
theorem cZ.zero {P:Program} {T:bD} (h:cZ P T) {t:Nat} {z:List SV} (hz:dq T 9 t [] =some z) (w:World) :
  ∃v:Value,(zeroValue t).run P w= .ok v w∧v.cells.toList=z.map SV.den:=by
 have hd: ∃d,bD.find T t=some d:=by
  cases hf:bD.find T t with
  | none=>simp [dq,hf] at hz
  | some d=>exact ⟨d,rfl⟩
 obtain⟨d,hd⟩:=hd
 have:=b₇.1 h.all _ (bD.find_mem hd)
 simp only [a₁] at this
 have h2:=this.2
 unfold Sa at h2
 rw [hz] at h2
 cases hi:P.info? t with
 | none=>simp [hi] at h2
 | some i=>
  cases hv:i.zero with
  | none=>simp [hi,hv] at h2
  | some v=>
   simp [hi,hv] at h2
   exact⟨v,by simp [zeroValue,typeInfo,hi,hv],(yH h2).symm⟩
theorem bG {P:Program} {t:TypeId} {n:Nat} (h:gF P t n=true) (w:World):(sizeOf t).run P w= .ok n w:=by
 unfold gF at h;split at h
 ·rename_i i hi;simp at h;simp [sizeOf,typeInfo,hi,h]
 ·cases h
theorem TD.fits_size {P:Program} {t:TypeId} {d:TD} (h:d.fitsB P t=true):gF P t d.size=true:=by
 unfold TD.fitsB at h;simp only [a₁] at h;exact h.1
theorem TD.fits_agg {P:Program} {t:TypeId} {d:TD} (h:d.fitsB P t=true) (w:World):(isAgg t).run P w= .ok d.agg w:=by
 unfold TD.fitsB at h;simp only [a₁] at h;have h2:=h.2;split at h2 <;> first | (rename_i hu;simp [isAgg,run_underlying hu,TD.agg];done) | (cases h2;done) | skip
 ·rename_i hu;split at h2
  ·cases h2
  ·cases h2
  ·rename_i hs ha;unfold isAgg;rw [Sem.run_bind,run_underlying hu];rename_i d' _;cases d' <;> simp_all [TD.agg]
theorem TD.fits_int {P:Program} {t:TypeId} {k:IntKind} (h:(TD.int k).fitsB P t=true):P.underlying t=some (.int k):=by
 unfold TD.fitsB at h;simp only [a₁] at h;obtain⟨_,h⟩:=h;cases hu:P.underlying t with
 | none=>simp [hu] at h
 | some d=>cases d <;> simp_all
theorem TD.fits_bool {P:Program} {t:TypeId} (h:TD.bool.fitsB P t=true):P.underlying t=some .bool:=by
 unfold TD.fitsB at h;simp only [a₁] at h;obtain⟨_,h⟩:=h;cases hu:P.underlying t with
 | none=>simp [hu] at h
 | some d=>cases d <;> simp_all
theorem TD.fits_str {P:Program} {t:TypeId} (h:TD.str.fitsB P t=true):P.underlying t=some .string:=by
 unfold TD.fitsB at h;simp only [a₁] at h;obtain⟨_,h⟩:=h;cases hu:P.underlying t with
 | none=>simp [hu] at h
 | some d=>cases d <;> simp_all
theorem TD.fits_slice {P:Program} {t e:TypeId} {es:Nat} (h:(TD.slice e es).fitsB P t=true):P.underlying t=some (.slice e)∧gF P e es=true:=by
 unfold TD.fitsB at h;simp only [a₁] at h;obtain⟨_,h⟩:=h;cases hu:P.underlying t with
 | none=>simp [hu] at h
 | some d=>
  cases d <;> simp [hu] at h ⊢
  obtain⟨h1,h2⟩:=h;first | (subst h1;exact⟨rfl,h2⟩) | (obtain⟨h1,h3⟩:=h1;subst h1;subst h3;exact⟨⟨rfl,rfl⟩,h2⟩)
theorem TD.fits_arr {P:Program} {t e:TypeId} {n es:Nat} (h:(TD.arr n e es).fitsB P t=true):P.underlying t=some (.array n e)∧gF P e es=true:=by
 unfold TD.fitsB at h;simp only [a₁] at h;obtain⟨_,h⟩:=h;cases hu:P.underlying t with
 | none=>simp [hu] at h
 | some d=>
  cases d <;> simp [hu] at h ⊢
  obtain⟨h1,h2⟩:=h;first | (subst h1;exact⟨rfl,h2⟩) | (obtain⟨h1,h3⟩:=h1;subst h1;subst h3;exact⟨⟨rfl,rfl⟩,h2⟩)
theorem TD.fits_struct {P:Program} {t:TypeId} {fs:List (Nat×TypeId)} {sz:Nat} (h:(TD.struct fs sz).fitsB P t=true) :
  ∃fields:Array Field,P.underlying t=some (.struct fields)∧fields.toList.map (fun f=>(f.offset,f.type))=fs∧fields.toList.all (fun f=>zX P f.type)=true∧vp P fs 0=true:=by
 unfold TD.fitsB at h
 simp only [a₁] at h
 obtain⟨_,h⟩:=h
 cases hu:P.underlying t with
 | none=>simp [hu] at h
 | some d=>
  cases d <;> simp only [hu,c₃,a₁,decide_eq_true_eq] at h
  exact⟨_,rfl,h.1.1,h.1.2,h.2⟩
theorem TD.fits_some {P:Program} {t:TypeId} {d:TD} (h:d.fitsB P t=true): ∃x,P.underlying t=some x:=by
 unfold TD.fitsB at h;simp only [a₁] at h;obtain⟨_,h⟩:=h;cases hu:P.underlying t with
 | none=>simp [hu] at h
 | some x=>exact ⟨x,rfl⟩
end
section
def ON {α:Type}:List α→Nat→Option α
 | [],_=>none
 | x :: _,0=>some x
 | _ :: l,n + 1=>ON l n
theorem vq {α:Type}: ∀(l:List α) (n:Nat),ON l n=l[n]?
 | [],_=>by simp [ON]
 | x :: l,0=>rfl
 | x :: l,n + 1=>by simp [ON,vq l n]
def xZ {α:Type}:List α→Nat→α→Option (List α)
 | [],_,_=>none
 | _ :: l,0,v=>some (v :: l)
 | x :: l,n + 1,v=>match xZ l n v with | some r=>some (x :: r) | none=>none
theorem Gt {α:Type}: ∀{l:List α} {n:Nat} {v:α} {r:List α},xZ l n v=some r→n < l.length∧r=l.set n v
 | [],_,_,_,h=>by simp [xZ] at h
 | x :: l,0,v,r,h=>by simp [xZ] at h;subst h;simp
 | x :: l,n + 1,v,r,h=>by
  simp only [xZ] at h
  split at h
  ·rename_i r' hr
   obtain⟨h1,h2⟩:=Gt hr
   injection h with h
   subst h;subst h2
   simp;exact h1
  ·cases h
def YR:SV→List SV
 | .val (.agg ⟨l⟩)=>l.map SV.val
 | v=> [v]
def OO:Kv→Nat→List SV→(Kv→Prop)→Prop
 | [],_,_,K=>K []
 | (j,kb) :: M,i,cs,K=>bif a₂ j i then K ((j,⟨kb.g,kb.t,cs⟩) :: M) else OO M i cs fun r=>K ((j,kb) :: r)
def OP:List SV→(List Value→Prop)→Prop
 | [],K=>K []
 | .val v :: l,K=>OP l fun r=>K (v :: r)
 | .ptr _ g off :: l,K=>OP l fun r=>K (.pointer (some ⟨g,off,none⟩) :: r)
 | .lit b :: l,K=>OP l fun r=>K (.bool b :: r)
def Zw:Nat→List SV→List SV
 | 0,_=> []
 | _,[] => []
 | n + 1,x :: l=>x :: Zw n l
def Zx:Nat→List SV→List SV
 | 0,l=>l
 | _,[] => []
 | n + 1,_ :: l=>Zx n l
def VS (l:List SV):List SV→List SV
 | [] =>l
 | r=>l ++ r
def OQ (cs:List SV) (off:Nat) (l:List Value) (n:Nat):List SV:=Zw off cs ++ VS (l.map SV.val) (Zx (off + n) cs)
def mS:List Nat→List Value→List (List Value)
 | [],_=> []
 | n :: ns,z=>tk n z :: mS ns (dp n z)
where
 tk:Nat→List Value→List Value
  | 0,_=> []
  | _,[] => []
  | n + 1,x :: l=>x :: tk n l
 dp:Nat→List Value→List Value
  | 0,l=>l
  | _,[] => []
  | n + 1,_ :: l=>dp n l
def zZ:List (List Value)→List Value
 | [] => []
 | l :: ls=>app l (zZ ls)
where
 app:List Value→List Value→List Value
  | [],r=>r
  | x :: l,r=>x :: app l r
def jZ:Value→List Value
 | .agg ⟨l⟩=>l
 | v=> [v]
def qC (T:bD):List (Nat×TypeId)→Option (List Nat)
 | [] =>some []
 | (_,t) :: fs=>match bD.find T t with
  | some d=>match qC T fs with | some r=>some (d.size :: r) | none=>none
  | none=>none
def z1 (T:bD) (t:TypeId):Option (List Nat):=match bD.find T t with
 | some (.struct fs _)=>qC T fs
 | some (.arr n _ es)=>some (b₃ n es)
 | _=>none
def kH:List (List Value)→List (Nat×Value)→Option (List (List Value))
 | eT,[] =>some eT
 | eT,(i,v) :: r=>match xZ eT i (jZ v) with
  | some dU=>kH dU r
  | none=>none
def qD:List Nat→List (Nat×Value)→Prop
 | _,[] =>True
 | ns,(i,v) :: r=>ON ns i=some (jZ v).length∧qD ns r
section
variable (P:Program) (T:bD) (E:Vq) (M:Kv) (H:OM)
abbrev Kw:=SV→Kv→OM→Prop
def d0j (t:TypeId) (p:SV) (K:Kw):Prop:=match bD.find T t with
 | none=>False
 | some d=>match p with
  | .ptr i g off=>match M.find i with
   | none=>False
   | some kb=>match d.agg with
    | false=> ∃v,ON kb.cs off=some v∧kb.g=g∧K v M H
    | true=>d₃ (off + d.size) kb.cs.length=true∧kb.g=g∧OP (Zw d.size (Zx off kb.cs)) fun l=>K (.val (.agg ⟨l⟩)) M H
  | .val (.pointer (some a))=> ∃v,(∀w,A M H w→(loadVar t a).run P w= .ok v w)∧K (.val v) M H
  | _=>False
def Zy (t:TypeId) (p v:SV) (K:Kw):Prop:=match bD.find T t with
 | none=>False
 | some d=>match p with
  | .ptr i g off=>match M.find i with
   | none=>False
   | some kb=>match d.agg with
    | false=> ∃cs,xZ kb.cs off v=some cs∧kb.g=g∧v.den.oneCell'=true∧OO M i cs fun M'=>K (.val undef) M' H
    | true=>match v with
     | .val (.agg ⟨l⟩)=>l.length=d.size∧d₃ (off + d.size) kb.cs.length=true∧kb.g=g∧l.all (·.oneCell')=true∧OO M i (OQ kb.cs off l d.size) fun M'=>K (.val undef) M' H
     | _=>False
  | .val (.pointer (some ⟨b,off,none⟩))=>match d.agg with
   | false=> ∃i kb,M.find i=some kb∧kb.g=b∧∃cs,xZ kb.cs off v=some cs∧v.den.oneCell'=true∧OO M i cs fun M'=>K (.val undef) M' H
   | true=>False
  | _=>False
def S7 (t:TypeId) (x ix:SV) (K:Kw):Prop:=match bD.find T t with
 | some (.slice _ es)=>match x,ix with
  | .val (.slice A len _), .val (.int _ n)=> ∃b o k:Nat,A=some ⟨b,o,none⟩∧n=(k:Int)∧k < len∧K (.val (.pointer (some ⟨b,o + k * es,none⟩))) M H
  | _,_=>False
 | some (.arr len _ es)=>match x,ix with
  | .ptr i g off, .val (.int _ n)=> ∃k:Nat,n=(k:Int)∧k < len∧K (.ptr i g (off + k * es)) M H
  | .val (.pointer (some ⟨b,off,none⟩)), .val (.int _ n)=> ∃k:Nat,n=(k:Int)∧k < len∧K (.val (.pointer (some ⟨b,off + k * es,none⟩))) M H
  | _,_=>False
 | _=>False
def z6 (op:BinOp) (k:IntKind) (m n:Int) (K:Value→Prop):Prop:=match op with
 | .add=> ∃r,k.wrap (m + n)=r∧K (.int k r)
 | .sub=> ∃r,k.wrap (m - n)=r∧K (.int k r)
 | .mul=> ∃r,k.wrap (m * n)=r∧K (.int k r)
 | .quo=>n≠0∧∃r,k.wrap (m.tdiv n)=r∧K (.int k r)
 | .rem=>n≠0∧∃r,m.tmod n=r∧K (.int k r)
 | .eql=>K (.bool (m == n))
 | .neq=>K (.bool (m !=n))
 | .lss=>K (.bool (decide (m < n)))
 | .leq=>K (.bool (decide (m≤n)))
 | .gtr=>K (.bool (decide (n < m)))
 | .geq=>K (.bool (decide (n≤m)))
 | .shl=>0≤n∧∃r,k.wrap (m * 2 ^ (min n.toNat k.bits))=r∧K (.int k r)
 | .shr=>0≤n∧∃r,m.fdiv (2 ^ (min n.toNat k.bits))=r∧K (.int k r)
 | .and=> ∃r,k.wrap (BitVec.ofInt k.bits m &&& BitVec.ofInt k.bits n).toNat=r∧K (.int k r)
 | .or=> ∃r,k.wrap (BitVec.ofInt k.bits m ||| BitVec.ofInt k.bits n).toNat=r∧K (.int k r)
 | .xor=> ∃r,k.wrap (BitVec.ofInt k.bits m ^^^ BitVec.ofInt k.bits n).toNat=r∧K (.int k r)
 | .andNot=> ∃r,k.wrap (BitVec.ofInt k.bits m &&& ~~~BitVec.ofInt k.bits n).toNat=r∧K (.int k r)
def z7 (op:BinOp) (s t:ByteArray) (K:Value→Prop):Prop:=match op with
 | .add=>s.size + t.size≤9223372036854775807∧K (.string (s ++ t))
 | .eql=>K (.bool (s.toList == t.toList))
 | .neq=>K (.bool (!(s.toList == t.toList)))
 | .lss=>K (.bool (Op.bytesLess s.toList t.toList))
 | .leq=>K (.bool (Op.bytesLess s.toList t.toList || s.toList == t.toList))
 | .gtr=>K (.bool (!(Op.bytesLess s.toList t.toList || s.toList == t.toList)))
 | .geq=>K (.bool (!Op.bytesLess s.toList t.toList))
 | _=>False
def uS (op:BinOp) (s t:Bool) (K:Value→Prop):Prop:=match op with
 | .eql=>K (.bool (s == t))
 | .neq=>K (.bool (s !=t))
 | _=>False
def Ih:IntKind→Nat
 | .i8=>0 | .i16=>1 | .i32=>2 | .i64=>3 | .u8=>4 | .u16=>5 | .u32=>6 | .u64=>7
theorem Gu {k j:IntKind} (h:a₂ (Ih k) (Ih j)=true):k=j:=by
 cases k <;> cases j <;> first | rfl | cases h
def qE:BinOp→Bool
 | .shl | .shr=>true
 | _=>false
def kT (t:TypeId) (yo:Operand) (x y:SV):Option Bool:=match y,bD.find T t with
 | .val (.pointer none),some .ptr=>match x with
  | .ptr _ _ _=>some false
  | .val (.pointer none)=>some true
  | .val (.pointer (some _))=>some false
  | _=>none
 | .val .nilIface,some .iface=>match yo with
  | .const _=>match x with
   | .val .nilIface=>some true
   | .val (.iface _ _)=>some false
   | _=>none
  | _=>none
 | .val (.slice none _ _),some (.slice _ _)=>match x with
  | .val (.slice none _ _)=>some true
  | .val (.slice (some _) _ _)=>some false
  | _=>none
 | _,_=>none
def z8 (t:TypeId) (parts:List (Nat×Value)) (K:Kw):Prop:=
 match dq T 9 t [],z1 T t with
 | some z,some ns=>match a₂ z.length ns.sum,kH (mS ns (z.map SV.den)) parts with
  | true,some eT=>qD ns parts∧K (.val (.agg (zZ eT).toArray)) M H
  | _,_=>False
 | _,_=>False
def uG:Nat→List SV→List SV
 | 0,_=> []
 | n + 1,z=>z ++ uG n z
end
end
section
theorem den_val (v:Value):(SV.val v).den=v:=rfl
section
variable {P:Program} {T:bD} {E:Vq} {M:Kv} {H:OM} {K:Kw} {N:Nat} {a:Act} {w:World}
theorem EB {op:BinOp} {k k':IntKind} {m n:Int} {t:TypeId} {xo yo:Operand} {K':Value→Prop} (hk:(qE op || a₂ (Ih k) (Ih k'))=true) (h:z6 op k m n K') :
  ∃v:Value,(∀w,(do eqGuard op t xo yo (.int k m) (.int k' n);binOp op t (.int k m) (.int k' n):Sem Value).run P w= .ok v w)∧K' v:=by
 have hg: ∀w,(eqGuard op t xo yo (.int k m) (.int k' n)).run P w= .ok () w:=by
  intro w;cases op <;> rfl
 cases op <;> simp only [qE,Bool.false_or,Bool.true_or] at hk <;> first | (have hk:=Gu hk;subst hk) | skip
 all_goals simp only [z6] at h
 case quo=>obtain ⟨h0,r,rfl,h⟩:=h;exact⟨_,fun w=>by simp [hg,binOp,Op.intDiv,h0],h⟩
 case rem=>obtain ⟨h0,r,rfl,h⟩:=h;exact⟨_,fun w=>by simp [hg,binOp,Op.intDiv,h0],h⟩
 case shl=>obtain ⟨h0,r,rfl,h⟩:=h;exact⟨_,fun w=>by simp [hg,binOp,Op.shift,show ¬ n < 0 by omega],h⟩
 case shr=>obtain ⟨h0,r,rfl,h⟩:=h;exact⟨_,fun w=>by simp [hg,binOp,Op.shift,show ¬ n < 0 by omega],h⟩
 all_goals first
  | (obtain⟨r,rfl,h⟩:=h;exact⟨_,fun w=>by simp [hg,binOp,Op.intArith,Op.intBits],h⟩)
  | exact⟨_,fun w=>by simp [hg,binOp,Op.intCmp],h⟩
theorem EC {op:BinOp} {x y:ByteArray} {t:TypeId} {xo yo:Operand} {K':Value→Prop} (h:z7 op x y K') :
  ∃v:Value,(∀w,(do eqGuard op t xo yo (.string x) (.string y);binOp op t (.string x) (.string y):Sem Value).run P w= .ok v w)∧K' v:=by
 have hg: ∀w,(eqGuard op t xo yo (.string x) (.string y)).run P w= .ok () w:=by
  intro w;cases op <;> rfl
 cases op <;> simp only [z7] at h
 case add=>
  obtain⟨h0,h⟩:=h
  have hle: ¬ ((x.size + y.size:Nat):Int) > IntKind.i64.max:=by
   have:IntKind.i64.max=9223372036854775807:=by decide
   omega
  exact⟨_,fun w=>by simp [hg,binOp,Op.stringOp] at hle ⊢;omega,h⟩
 all_goals first
  | exact⟨_,fun w=>by simp [hg,binOp,Op.stringOp],h⟩
  | exact h.elim
theorem BK {op:BinOp} {x y:Bool} {t:TypeId} {xo yo:Operand} {K':Value→Prop} (ht:P.underlying t=some .bool) (h:uS op x y K') :
  ∃v:Value,(∀w,(do eqGuard op t xo yo (.bool x) (.bool y);binOp op t (.bool x) (.bool y):Sem Value).run P w= .ok v w)∧K' v:=by
 have hg: ∀w,(eqGuard op t xo yo (.bool x) (.bool y)).run P w= .ok () w:=by
  intro w;cases op <;> rfl
 cases op <;> simp only [uS] at h <;> first
  | exact⟨_,fun w=>by simp [hg,binOp,run_equal_bool w t x y ht,bne],h⟩
  | exact h.elim
theorem Gv {t:TypeId} {xo yo:Operand} {u v:Value} {b:Bool} (h: ∀d,(Op.equalIn (d + 1) t u v).run P w= .ok b w) (hg: ∀op,(eqGuard op t xo yo u v).run P w= .ok () w)
  (h1:binOp .eql t u v=(do pure (.bool (← Op.equal t u v)))) (h2:binOp .neq t u v=(do pure (.bool (!(← Op.equal t u v))))) :
  (do eqGuard .eql t xo yo u v;binOp .eql t u v:Sem Value).run P w= .ok (.bool b) w∧(do eqGuard .neq t xo yo u v;binOp .neq t u v:Sem Value).run P w= .ok (.bool (!b)) w:=by
 have he:(Op.equal t u v).run P w= .ok b w:=h 9999
 constructor
 ·rw [Sem.run_bind,hg,Result.andThen_ok,h1,Sem.run_bind,he];rfl
 ·rw [Sem.run_bind,hg,Result.andThen_ok,h2,Sem.run_bind,he];rfl
theorem vr (hT:cZ P T) {t:TypeId} {xo yo:Operand} {x y:SV} {b:Bool} (h:kT T t yo x y=some b) (w:World) :
  (do eqGuard .eql t xo yo x.den y.den;binOp .eql t x.den y.den:Sem Value).run P w= .ok (.bool b) w∧(do eqGuard .neq t xo yo x.den y.den;binOp .neq t x.den y.den:Sem Value).run P w= .ok (.bool (!b)) w:=by
 unfold kT at h
 split at h
 ·rename_i hd
  have hu:(∃e,P.underlying t=some (.pointer e))∨P.underlying t=some .unsafePointer:=by
   have hf:=hT.fits hd
   unfold TD.fitsB at hf
   simp only [a₁] at hf
   obtain⟨_,hf⟩:=hf
   cases hu:P.underlying t with
   | none=>simp [hu] at hf
   | some d=>cases d <;> simp_all
  rcases hu with ⟨e,hu⟩ | hu
  ·split at h <;> first | (cases h;done) | (injection h with h;subst h;exact Gv (fun d=>by simp [Op.equalIn,run_underlying hu,SV.den]) (fun op=>by cases op <;> simp [eqGuard,SV.den]) rfl rfl)
  ·split at h <;> first | (cases h;done) | (injection h with h;subst h;exact Gv (fun d=>by simp [Op.equalIn,run_underlying hu,SV.den,samePointer]) (fun op=>by cases op <;> simp [eqGuard,SV.den]) rfl rfl)
 ·rename_i hd
  have hu: ∃e,P.underlying t=some (.interface e):=by
   have hf:=hT.fits hd
   unfold TD.fitsB at hf
   simp only [a₁] at hf
   obtain⟨_,hf⟩:=hf
   cases hu:P.underlying t with
   | none=>simp [hu] at hf
   | some d=>cases d <;> simp_all
  obtain⟨e,hu⟩:=hu
  split at h
  ·split at h <;> first | (cases h;done) | (injection h with h;subst h;exact Gv (fun d=>by simp [Op.equalIn,run_underlying hu,SV.den]) (fun op=>by cases op <;> simp [eqGuard,SV.den]) rfl rfl)
  ·cases h
 ·rename_i hd
  have hu:=(TD.fits_slice (hT.fits hd)).1
  split at h <;> first | (cases h;done) | (injection h with h;subst h;exact Gv (fun d=>by simp [Op.equalIn,run_underlying hu,SV.den]) (fun op=>by cases op <;> simp [eqGuard,SV.den]) rfl rfl)
 ·cases h
theorem nj {j:IntKind} {n y:Nat} {code:BoundsCode} (h:n≤y) (w:World):(Instr.sliceBound (.int j (n:Int)) y code).run P w= .ok n w:=by
 have h0:(0:Int)≤(n:Int)∧(n:Int)≤(y:Int):=⟨om,om⟩;simp only [Instr.sliceBound,asIntOf,Sem.run_bind,Sem.run_pure,Result.andThen_ok,h0,and_self,if_true,d₁]
theorem eU {b:Bool} {len cap l h:Nat} {lo hi:Option Value} (H3:lo=none∧l=0∨∃j,lo=some (.int j l)) (H6:hi=none∧h=len∨∃j,hi=some (.int j h)) (h1:l≤h) (h2:h≤cap) (w:World) :
  (Instr.sliceBounds b len cap lo hi none).run P w= .ok (l,h,cap) w:=by
 rcases H6 with ⟨rfl,rfl⟩ | ⟨j,rfl⟩ <;> rcases H3 with ⟨rfl,rfl⟩ | ⟨j',rfl⟩ <;>
  simp [Instr.sliceBounds,nj h1,nj h2]
theorem flat_app (l r:List Value):zZ.app l r=l ++ r:=by
 induction l with
 | nil=>rfl
 | cons x l ih=>simp [zZ.app,ih]
theorem Gw (ls:List (List Value)):zZ ls=ls.flatten:=by
 induction ls with
 | nil=>rfl
 | cons l ls ih=>simp [zZ,flat_app,ih]
theorem cutBy_tk (n:Nat) (l:List Value):mS.tk n l=l.take n:=by
 induction n generalizing l with
 | zero=>cases l <;> rfl
 | succ n ih=>cases l <;> simp [mS.tk,ih]
theorem cutBy_dp (n:Nat) (l:List Value):mS.dp n l=l.drop n:=by
 induction n generalizing l with
 | zero=>cases l <;> rfl
 | succ n ih=>cases l <;> simp [mS.dp,ih]
theorem pY: ∀(ns:List Nat) (z:List Value),z.length=ns.sum→(mS ns z).flatten=z∧(mS ns z).map a₈=ns
 | [],z,h=>by simp at h;subst h;simp [mS]
 | n :: ns,z,h=>by
  simp at h
  obtain⟨h1,h2⟩:=pY ns (z.drop n) (by simp;omega)
  simp only [mS,cutBy_tk,cutBy_dp,b₀,h1,c₆,e₅,h2,a₇,true_and]
  congr 1
  omega
theorem tY: ∀(eT:List (List Value)) (i:Nat) (c:List Value) (s:List Value),eT[i]? =some s→c.length=s.length→
  (eT.set i c).flatten=eT.flatten.take ((eT.map a₈).take i).sum ++ c ++ eT.flatten.drop (((eT.map a₈).take i).sum + c.length)
 | [],i,c,s,h,_=>by simp at h
 | l :: ls,0,c,s,h,hc=>by
  simp at h;subst h
  simp [hc]
 | l :: ls,i + 1,c,s,h,hc=>by
  simp at h
  have ih:=tY ls i c s h hc
  simp only [g₆,b₀,ih,e₅,d₉,List.sum_cons,List.take_append,List.drop_append]
  have e1:l.take (l.length + ((ls.map a₈).take i).sum)=l:=e₄ om
  have e2:l.drop (l.length + ((ls.map a₈).take i).sum + c.length)= [] :=List.drop_of_length_le om
  rw [e1,e2]
  simp [show l.length + ((ls.map a₈).take i).sum - l.length=((ls.map a₈).take i).sum by omega,show l.length + ((ls.map a₈).take i).sum + c.length - l.length=((ls.map a₈).take i).sum + c.length by omega]
theorem tZ (off:Nat): ∀(vs:List Value) (j:Nat) (cs:Array Value),off + j + vs.length≤cs.size→
  (vs.zipIdx j).foldl (fun cs (c,j)=>cs.setIfInBounds (off + j) c) cs=(cs.toList.take (off + j) ++ vs ++ cs.toList.drop (off + j + vs.length)).toArray
 | [],j,cs,_=>by simp
 | v :: vs,j,cs,h=>by
  simp only [List.zipIdx_cons,List.foldl_cons]
  rw [tZ off vs (j + 1) _ (by simp at h ⊢;omega)]
  simp at h
  congr 1
  apply d₂
  intro k
  simp only [Array.toList_setIfInBounds,g₀,a₇,List.length_set,Array.length_toList,c₄,e₃,c₅,a₅,h₃]
  by_cases h1:k < off + j
  ·simp [h1,show k < off + (j + 1) by omega,show min (off + (j + 1)) cs.size=off + (j + 1) by omega,show min (off + j) cs.size=off + j by omega,show ¬ off + j=k by omega,show k < off + (j + 1) + vs.length by omega,show k < off + j + (vs.length + 1) by omega]
  ·by_cases h2:k=off + j
   ·subst h2
    simp [show min (off + (j + 1)) cs.size=off + (j + 1) by omega,show min (off + j) cs.size=off + j by omega,show off + j < off + (j + 1) by omega,show off + j < cs.size by omega,show off + j < off + (j + 1) + vs.length by omega]
   ·simp only [show min (off + (j + 1)) cs.size=off + (j + 1) by omega,show min (off + j) cs.size=off + j by omega,h1,if_false,show ¬ k < off + (j + 1) by omega]
    by_cases h3:k < off + (j + 1) + vs.length
    ·simp [h3,show k < off + j + (vs.length + 1) by omega,show k - (off + j)=(k - (off + (j + 1))) + 1 by omega]
    ·simp [h3,show ¬ k < off + j + (vs.length + 1) by omega,
      show off + (j + 1) + vs.length + (k - (off + (j + 1) + vs.length))=off + j + (vs.length + 1) + (k - (off + j + (vs.length + 1))) by omega]
     intro h'
     omega
theorem Kx {α:Type} {l:List α} {i:Nat} {x:α} (h:l[i]? =some x):l.set i x=l:=by
 apply d₂;intro k;rw [e₃];by_cases e:i=k
 ·subst e;obtain⟨h1,h2⟩:=a₄.1 h;simp [h1,h2]
 ·simp [e]
theorem sO (v:Value):v.cells.toList=jZ v:=by
 cases v <;> rfl
theorem sP {place:Nat→Option (Nat×Nat)} {ns:List Nat} (hp: ∀i n,ns[i]? =some n→place i=some ((ns.take i).sum,n)): ∀(parts:List (Nat×Value)) (eT dU:List (List Value)),
  eT.map a₈=ns→kH eT parts=some dU→qD ns parts→Instr.fill place eT.flatten.toArray parts=some dU.flatten.toArray
 | [],eT,dU,_,h,_=>by simp [kH] at h;subst h;simp [Instr.fill]
 | (i,v) :: parts,eT,dU,zS,h,hf=>by
  simp only [kH] at h
  split at h
  ·rename_i s1 tX
   obtain⟨eS,rfl⟩:=Gt tX
   obtain⟨hn,hf⟩:=hf
   rw [vq] at hn
   have jD:=hp i _ hn
   have Of:eT[i]? =some (eT[i]'eS):=a₃ eS
   have hlen:(jZ v).length=(eT[i]'eS).length:=by
    rw [← zS,b₁,Of] at hn
    simpa using hn.symm
   have gM:v.cells.size=(jZ v).length:=by rw [← sO,Array.length_toList]
   have VR:=tY eT i (jZ v) _ Of hlen
   have hbound:(ns.take i).sum + (jZ v).length≤eT.flatten.length:=by
    rw [e₇,zS]
    have h1:ns=ns.take i ++ ns.drop i:=(c₆ i ns).symm
    have h2:ns.drop i=(jZ v).length :: ns.drop (i + 1):=by
     have hi:=(a₄.1 hn)
     obtain⟨hi1,hi2⟩:=hi
     rw [f₁ hi1,hi2]
    have h3:ns.sum=(ns.take i).sum + (ns.drop i).sum:=by rw [← List.sum_append,c₆]
    rw [h3,h2,List.sum_cons]
    omega
   have ih:=sP hp parts (eT.set i (jZ v)) dU (by rw [List.map_set,zS,Kx hn]) h hf
   simp only [Instr.fill,jD,gM,ne_eq,not_true_eq_false,decide_false,Bool.false_or,c₀]
   rw [if_neg (by rw [e₇] at hbound;simp [e₇];omega)]
   have XO:=tZ (ns.take i).sum v.cells.toList 0 eT.flatten.toArray (by rw [Array.length_toList,gM];simpa using hbound)
   have hz:Array.foldl (fun cs (x:Value×Nat)=>cs.setIfInBounds ((ns.take i).sum + x.2) x.1) eT.flatten.toArray v.cells.zipIdx=(eT.set i (jZ v)).flatten.toArray:=by
    rw [← Array.foldl_toList,Array.toList_zipIdx]
    refine Eq.trans XO ?_
    rw [sO,VR,zS]
    simp
   rw [show (Array.foldl (fun cs x=>match x with | (c,j)=>cs.setIfInBounds ((ns.take i).sum + j) c) eT.flatten.toArray v.cells.zipIdx)=_ from hz]
   exact ih
  ·cases h
structure Seat (P:Program) (T:bD) (ents:List FuncId):Prop where
 tab:cZ P T
 enters: ∀f∈ents,∀args w,(callFunc f args).run P w= .ok (.enter f args) w
 mixed:P.follows .mixedOrders=true
theorem vu (hT:cZ P T): ∀{fs:List (Nat×TypeId)} {ns:List Nat},qC T fs=some ns→fs.length=ns.length∧∀(i o t:Nat),fs[i]? =some (o,t)→∃n,ns[i]? =some n∧gF P t n=true
 | [],ns,h=>by simp [qC] at h;subst h;simp
 | (o,t) :: fs,ns,h=>by
  simp only [qC] at h
  split at h
  ·rename_i d hd
   split at h
   ·rename_i r hr
    obtain⟨h1,h2⟩:=vu hT hr
    injection h with h;subst h
    refine⟨by simp [h1],fun i o' t' hi=>?_⟩
    cases i with
    | zero=>simp at hi;obtain⟨rfl,rfl⟩:=hi;exact⟨_,rfl,TD.fits_size (hT.fits hd)⟩
    | succ i=>exact h2 i o' t' (by simpa using hi)
   ·cases h
  ·cases h
theorem vv {P:Program}: ∀{fs:List (Nat×TypeId)} {ns:List Nat} {b:Nat},vp P fs b=true→fs.length=ns.length→(∀(i o t:Nat),fs[i]? =some (o,t)→∃n,ns[i]? =some n∧gF P t n=true)→
  ∀(i o t:Nat),fs[i]? =some (o,t)→o=b + (ns.take i).sum
 | [],ns,b,_,_,_,i,o,t,hi=>by simp at hi
 | (o0,t0) :: fs,[],b,_,hl,_,i,o,t,hi=>by simp at hl
 | (o0,t0) :: fs,n0 :: ns,b,h,hl,hs,i,o,t,hi=>by
  simp only [vp,a₁,beq_iff_eq] at h
  obtain⟨h1,h2⟩:=h
  cases NS:P.info? t0 with
  | none=>simp [NS] at h2
  | some inf=>
   simp only [NS] at h2
   obtain⟨n,hn,gM⟩:=hs 0 o0 t0 rfl
   simp at hn;subst hn
   have uD:inf.size=n0:=by simpa [gF,NS] using gM
   cases i with
   | zero=>simp at hi;obtain⟨rfl,rfl⟩:=hi;simp [h1]
   | succ i=>
    have:=vv h2 (by simpa using hl) (fun i o t hi=>by simpa using hs (i + 1) o t (by simpa using hi)) i o t (by simpa using hi)
    rw [this,uD];simp;omega
theorem vw {P:Program}: ∀{fs:List Field} {ns:List Nat},fs.length=ns.length→(∀(i:Nat) (f:Field),fs[i]? =some f→∃n,ns[i]? =some n∧gF P f.type n=true)→
  ∃pl,fs.mapM (fun f=>(P.info? f.type).map fun i=>(f.offset,i.size))=some pl∧pl=(fs.zip ns).map fun x=>(x.1.offset,x.2)
 | [],[],_,_=>⟨[],sm,rfl⟩
 | [],_ :: _,h,_=>by simp at h
 | _ :: _,[],h,_=>by simp at h
 | f :: fs,n :: ns,h,hs=>by
  obtain⟨pl,h1,h2⟩:=vw (by simpa using h) (fun i f hi=>by simpa using hs (i + 1) f (by simpa using hi))
  obtain⟨n',hn,gM⟩:=hs 0 f rfl
  simp at hn;subst hn
  unfold gF at gM
  split at gM
  ·rename_i inf a0v
   have a0x:inf.size=n:=by simpa using gM
   exact⟨(f.offset,n) :: pl,by simp [a0v,h1,a0x],by simp [h2]⟩
  ·cases gM
theorem ED (hT:cZ P T) {t:TypeId} {parts:List (Nat×Value)} (h:z8 T M H t parts K): ∃v:SV,(∀w,A M H w→(Instr.build t parts.toArray).run P w= .ok v.den w)∧K v M H:=by
 unfold z8 at h;split at h
 ·rename_i z ns hz zS;split at h
  ·rename_i eT hlen XR;have hlen:=a₀ hlen;obtain⟨U6,hK⟩:=h;refine⟨.val (.agg (zZ eT).toArray),fun w _=>?_,hK⟩;obtain⟨zv,Ey,Vb⟩:=hT.zero hz w;have hzi: ∃it,P.info? t=some it∧it.zero=some zv:=by
    cases hi:P.info? t with
    | none=>simp [zeroValue,typeInfo,hi,stuck] at Ey
    | some it=>
     cases hv:it.zero with
     | none=>simp [zeroValue,typeInfo,hi,hv,unsupported] at Ey
     | some v=>simp [zeroValue,typeInfo,hi,hv] at Ey;subst Ey;exact⟨it,rfl,hv⟩
   obtain⟨it,hit,Xg⟩:=hzi;have mR:zv.cells=(z.map SV.den).toArray:=by rw [← Vb]
   have core: ∀(place:Nat→Option (Nat×Nat)),(∀i n,ns[i]? =some n→place i=some ((ns.take i).sum,n))→
     Instr.fill place (z.map SV.den).toArray parts=some (zZ eT).toArray:=by
    intro place hp
    obtain⟨H9,Bu⟩:=pY ns (z.map SV.den) (by simpa using hlen)
    have:=sP hp parts _ eT Bu XR U6
    rw [H9] at this
    rw [this,Gw]
   refine run_build w t parts.toArray _ ?_;unfold z1 at zS;split at zS
   ·rename_i fs sz hd;obtain⟨fields,hu,h3,_,h5⟩:=TD.fits_struct (hT.fits hd);obtain⟨h6,h7⟩:=vu hT zS;have Kb:=vv h5 h6 h7;have N8: ∀(i:Nat) (f:Field),fields.toList[i]? =some f→fs[i]? =some (f.offset,f.type):=by
     intro i f hi;rw [← h3,b₁,hi];rfl
    obtain⟨pl,h8,h9⟩:=vw (P:=P) (fs:=fields.toList) (ns:=ns) (by rw [← h6,← h3,c₁]) (fun i f hi=>h7 i _ _ (N8 i f hi));simp only [Program.built,hit,hu,Xg,h8,mR];refine core _ fun i n hn=>?_
    have hi:i < fields.toList.length:=by
     have:=(a₄.1 hn).1;rw [← h6,← h3,c₁] at this;exact this
    have hf:=a₃ hi;have ho:=Kb i _ _ (N8 i _ hf);subst h9;have Ka:(fields.toList.zip ns)[i]? =some (fields.toList[i],n):=List.getElem?_zip_eq_some.2 ⟨hf,hn⟩;simp only [List.getElem?_toArray,b₁,Ka,Option.map_some];rw [ho];simp
   ·rename_i n e es hd;obtain⟨hu,hs⟩:=TD.fits_arr (hT.fits hd);injection zS with zS
    subst zS;unfold gF at hs;split at hs
    ·rename_i ie hie;have R8:ie.size=es:=by simpa using hs
     simp only [Program.built,hit,hu,Xg,hie,mR];refine core _ fun i m hm=>?_
     rw [f₇] at hm;split at hm
     ·injection hm with hm
      subst hm;rename_i xJ;rw [g₃,f₉,R8,b₉ om]
     ·cases hm
    ·cases hs
   ·cases zS
  ·exact h.elim
 ·exact h.elim
theorem ua (n:Nat) (z:List SV):(uG n z).length=n * z.length:=by
 induction n with
 | zero=>simp [uG]
 | succ n ih=>simp [uG,ih,f₄,Nat.add_comm]
theorem BL (z:List SV) (hz:0 < z.length): ∀(n k:Nat),k < n * z.length→(uG n z)[k]? =z[k % z.length]?
 | 0,k,h=>by omega
 | n + 1,k,h=>by
  simp only [uG]
  by_cases hk:k < z.length
  ·rw [b₂ hk,h₄ hk]
  ·rw [b₈ om,BL z hz n (k - z.length) (by rw [f₄] at h;omega)]
   congr 1
   exact(Nat.mod_eq_sub_mod om).symm
theorem vx {n es:Nat} {z:List SV} {zc:Array Value} (hz:zc=(z.map SV.den).toArray) (hl:z.length=es) (h0:0 < es) :
  ((Array.range (n * es)).map (zc[· % zc.size]!))=((uG n z).map SV.den).toArray:=by
 subst hz
 apply Array.ext
 ·simp [ua,hl]
 ·intro k h1 h2
  have hk:k < n * es:=by simpa using h1
  have eS:k % z.length < z.length:=Nat.mod_lt _ om
  have hg:=BL z om n k (by rw [hl];exact hk)
  simp only [Array.getElem_map,Array.getElem_range,c₀,c₁,List.getElem_toArray]
  rw [a₃ (by rw [ua,hl];exact hk),a₃ eS] at hg
  injection hg with hg
  rw [List.getElem_map,hg,getElem!_pos _ _ (by simpa using eS)]
  simp
theorem ld1 (hT:cZ P T) {t:TypeId} {d:TD} (hd:bD.find T t=some d) (ha:d.agg=false) {w w':World} {b o p j:Nat} {cs:List Value} {v:Value} (hr:w.rangeAt b o cs) (hj:cs[j]? =some v) (hp:p=o + j) (hb:Below w.heap.size w w') :
  (loadVar t ⟨b,p,none⟩).run P w'= .ok v w':=by
 subst hp
 have EA:=qB (w':=w') hr (fun h=>hb.block b h)
 have hc:=EA j v hj
 simp [loadVar,TD.fits_agg (hT.fits hd),ha,load,hc,Sem.run,Sem.run_bind]
theorem ldn (hT:cZ P T) {t:TypeId} {d:TD} (hd:bD.find T t=some d) (ha:d.agg=true) {w w':World} {b o:Nat} {cs:List Value} (hl:cs.length=d.size) (hr:w.rangeAt b o cs) (hb:Below w.heap.size w w') :
  (loadVar t ⟨b,o,none⟩).run P w'= .ok (.agg ⟨cs⟩) w':=by
 have EA:=qB (w':=w') hr (fun h=>hb.block b h)
 have nd:(loadCells ⟨b,o,none⟩ cs.length).run P w'= .ok cs.toArray w':=
  run_loadCells_list (P:=P) w' ⟨b,o,none⟩ _ (fun j v hv=>by rw [Addr.add_mid];exact EA j v hv)
 rw [hl] at nd
 simp only [loadVar,Sem.run_bind,Sem.run_pure,Result.andThen_ok,TD.fits_agg (hT.fits hd),ha,if_true,bG (TD.fits_size (hT.fits hd)),nd]
end
end
section
inductive MV where
 | int (k:IntKind) (n:Int)
 | bool (b:Bool)
 | str (s:List UInt8)
 | nilp
 | ptr (c es k fo:Nat) (path:List Nat)
 | gp (g off:Nat)
 | ep (v:MV) (fo:Nat) (path:List Nat)
 | sl (n:Nat) (l:List MV)
 | nils
 | ms (c es off n:Nat)
 | fn (f:FuncId) (caps:List MV)
 | nilf
 | nili
 | ifc (t:TypeId) (v:MV)
 | st (l:List MV)
 | arr (n es:Nat) (l:List MV)
 | tup (l:List MV)
 | mp (c:Nat)
 | mpv (ks vs:List MV)
 | undef
 deriving Inhabited
mutual
def MV.size:MV→Nat
 | .st l=>MV.sizes l
 | .arr n es _=>n * es
 | .mpv .. =>0
 | _=>1
def MV.sizes:List MV→Nat
 | [] =>0
 | m :: l=>MV.size m + MV.sizes l
end
def MV.isAgg:MV→Bool
 | .st _=>true
 | .arr .. =>true
 | _=>false
mutual
def MV.idFree:MV→Bool
 | .ptr .. =>false
 | .ms .. =>false
 | .fn _ l=>MV.idFrees l
 | .ifc _ v=>MV.idFree v
 | .st l=>MV.idFrees l
 | .tup _=>false
 | .mp _=>false
 | .mpv .. =>false
 | .undef=>false
 | _=>true
def MV.idFrees:List MV→Bool
 | [] =>true
 | m :: l=>MV.idFree m && MV.idFrees l
end
def valM (m:MV) (cs:List Value):Value:=if m.isAgg then .agg ⟨cs⟩ else cs.headD undef
abbrev gG:=Nat→Option Nat
def noAdr:gG:=fun _=>none
abbrev cB:=Nat→Nat→Prop
inductive dk (w:World) (P:cB):gG→MV→List Value→Prop where
 | int {adr k n}:dk w P adr (.int k n) [.int k n]
 | bool {adr b}:dk w P adr (.bool b) [.bool b]
 | str {adr s}:dk w P adr (.str s) [.string ⟨s.toArray⟩]
 | nilp {adr}:dk w P adr .nilp [.pointer none]
 | ptr {adr c es k fo path} (g:Nat) (h:adr c=some g):dk w P adr (.ptr c es k fo path) [.pointer (some ⟨g,k * es + fo,none⟩)]
 | gp {adr g off}:dk w P adr (.gp g off) [.pointer (some ⟨g,off,none⟩)]
 | ep {adr v fo path} (b o:Nat) (vs:List Value) (hc: ∀(j:Nat) u,vs[j]? =some u→w.cell? ⟨b,o + j,none⟩=some u∧P b (o + j)) (hr:dk w P noAdr v vs):dk w P adr (.ep v fo path) [.pointer (some ⟨b,o + fo,none⟩)]
 | sl {adr n l} (A:Option Addr) (cap es:Nat) (parts:List (List Value)) (hl:l.length=n) (hp:parts.length=n) (ej: ∀p∈parts,p.length=es) (OJ:A=none→n=0∧cap=0) (iq:n≤cap)
   (hc:n≠0→∃b o,A=some ⟨b,o,none⟩∧∀(j:Nat) u,parts.flatten[j]? =some u→w.cell? ⟨b,o + j,none⟩=some u∧P b (o + j))
   (hr: ∀(j:Nat) m p,l[j]? =some m→parts[j]? =some p→dk w P noAdr m p):dk w P adr (.sl n l) [.slice A n cap]
 | nils {adr}:dk w P adr .nils [.slice none 0 0]
 | ms0 {adr c es}:dk w P adr (.ms c es 0 0) [.slice none 0 0]
 | ms {adr c es off n} (g o cap:Nat) (h:adr c=some g) (ho:n≠0∨off=0→o=off * es) (iq:n≤cap) (sE:cap≤maxLen) (gM: ∃cur ty,w.heap[g]? =some (.cells cur ty (0,0))∧(off=0→cur.size=cap * es)) :
   dk w P adr (.ms c es off n) [.slice (some ⟨g,o,none⟩) n cap]
 | fn {adr f caps} (parts:List (List Value)) (hp:parts.length=caps.length) (hr: ∀(j:Nat) m p,caps[j]? =some m→parts[j]? =some p→dk w P adr m p):dk w P adr (.fn f caps) [.func (.func f) #[] (List.zipWith valM caps parts).toArray]
 | nilf {adr}:dk w P adr .nilf [.nilFunc]
 | mp {adr c} (g:Nat) (h:adr c=some g):dk w P adr (.mp c) [.map (some g)]
 | nili {adr}:dk w P adr .nili [.nilIface]
 | ifc {adr t v} (cs:List Value) (hr:dk w P adr v cs):dk w P adr (.ifc t v) [.iface t (valM v cs)]
 | st {adr l} (parts:List (List Value)) (hp:parts.length=l.length) (hr: ∀(j:Nat) m p,l[j]? =some m→parts[j]? =some p→dk w P adr m p):dk w P adr (.st l) parts.flatten
 | arr {adr n es l} (parts:List (List Value)) (hl:l.length=n) (hp:parts.length=n) (ej: ∀p∈parts,p.length=es) (hr: ∀(j:Nat) m p,l[j]? =some m→parts[j]? =some p→dk w P noAdr m p):dk w P adr (.arr n es l) parts.flatten
inductive aM (w:World) (P:cB) (adr:gG):MV→Value→Prop where
 | val {m} (cs:List Value) (h:dk w P adr m cs):aM w P adr m (valM m cs)
 | undef:aM w P adr .undef undef
 | tup {l} (vs:List Value) (hl:vs.length=l.length) (h: ∀(j:Nat) m u,l[j]? =some m→vs[j]? =some u→∃cs,dk w P adr m cs∧u=valM m cs):aM w P adr (.tup l) (.tuple vs.toArray)
section
variable {w w':World} {P P':cB} {adr aN:gG} {m:MV} {vs:List Value}
structure bJ (w w':World) (P P':cB) (adr aN:gG):Prop where
 prot: ∀b o,P b o→P' b o
 cell: ∀b o,P b o→w'.cell? ⟨b,o,none⟩=w.cell? ⟨b,o,none⟩
 num: ∀c g,adr c=some g→aN c=some g
 size: ∀c g cur ty,adr c=some g→w.heap[g]? =some (.cells cur ty (0,0))→∃cur',w'.heap[g]? =some (.cells cur' ty (0,0))∧cur'.size=cur.size
theorem bJ.refl (w:World) (P:cB) (adr:gG):bJ w w P P adr adr:=⟨fun _ _ h=>h,fun _ _ _=>rfl,fun _ _ h=>h,fun _ _ cur _ _ h=>⟨cur,h,rfl⟩⟩
theorem bJ.free (h:bJ w w' P P' adr aN):bJ w w' P P' noAdr noAdr:=⟨h.prot,h.cell,fun _ _ h=>h,fun _ _ _ _ h=>nomatch h⟩
theorem bJ.trans {w'':World} {P'':cB} {Sz:gG} (h:bJ w w' P P' adr aN) (k:bJ w' w'' P' P'' aN Sz):bJ w w'' P P'' adr Sz:=
 ⟨fun b o hp=>k.prot b o (h.prot b o hp),fun b o hp=>(k.cell b o (h.prot b o hp)).trans (h.cell b o hp),fun c g hc=>k.num c g (h.num c g hc),fun c g cur ty hc hw=>by
  obtain⟨b0d,h1,h2⟩:=h.size c g cur ty hc hw;obtain⟨a0i,h3,h4⟩:=k.size c g b0d ty (h.num c g hc) h1;exact⟨a0i,h3,h4.trans h2⟩⟩
theorem dk.keep (h:dk w P adr m vs): ∀{aN:gG},bJ w w' P P' adr aN→dk w' P' aN m vs:=by
 induction h with
 | int=>intro _ _;exact .int
 | bool=>intro _ _;exact .bool
 | str=>intro _ _;exact .str
 | nilp=>intro _ _;exact .nilp
 | ptr g h=>intro _ k;exact .ptr g (k.num _ _ h)
 | gp=>intro _ _;exact .gp
 | ep b o vs hc hr ih=>intro _ k;exact .ep b o vs (fun j u hj=>⟨(k.cell _ _ (hc j u hj).2).trans (hc j u hj).1,k.prot _ _ (hc j u hj).2⟩) (ih k.free)
 | sl A cap es parts hl hp ej OJ iq hc hr ih=>
  intro _ k;refine .sl A cap es parts hl hp ej OJ iq (fun hn=>?_) (fun j m p h1 h2=>ih j m p h1 h2 k.free);obtain⟨b,o,hA,hc⟩:=hc hn;exact⟨b,o,hA,fun j u hj=>⟨(k.cell _ _ (hc j u hj).2).trans (hc j u hj).1,k.prot _ _ (hc j u hj).2⟩⟩
 | nils=>intro _ _;exact .nils
 | ms0=>intro _ _;exact .ms0
 | ms g o cap h ho iq sE gM=>
  intro _ k;obtain⟨cur,ty,hw,hs⟩:=gM;obtain⟨cur',UX,lV⟩:=k.size _ _ _ _ h hw;exact .ms g o cap (k.num _ _ h) ho iq sE ⟨cur',ty,UX,fun h0=>by rw [lV,hs h0]⟩
 | fn parts hp hr ih=>intro _ k;exact .fn parts hp fun j m p h1 h2=>ih j m p h1 h2 k
 | nilf=>intro _ _;exact .nilf
 | mp g h=>intro _ k;exact .mp g (k.num _ _ h)
 | nili=>intro _ _;exact .nili
 | ifc cs hr ih=>intro _ k;exact .ifc cs (ih k)
 | st parts hp hr ih=>intro _ k;exact .st parts hp fun j m p h1 h2=>ih j m p h1 h2 k
 | arr parts hl hp ej hr ih=>intro _ k;exact .arr parts hl hp ej fun j m p h1 h2=>ih j m p h1 h2 k.free
theorem aM.keep {v:Value} (h:aM w P adr m v) (k:bJ w w' P P' adr aN):aM w' P' aN m v:=by
 cases h with
 | val cs h=>exact .val cs (h.keep k)
 | undef=>exact .undef
 | tup vs hl h=>exact .tup vs hl fun j m u h1 h2=>by obtain⟨cs,h3,h4⟩:=h j m u h1 h2;exact⟨cs,h3.keep k,h4⟩
theorem aU {es:Nat}: ∀{parts:List (List Value)},(∀p∈parts,p.length=es)→parts.flatten.length=parts.length * es
 | [],_=>by simp
 | p :: parts,h=>by
  rw [b₀,a₅,h p sm,aU fun q hq=>h q (by simp [hq]),h₃,f₄]
  omega
theorem BM: ∀{l:List MV} {parts:List (List Value)},parts.length=l.length→(∀(j:Nat) m p,l[j]? =some m→parts[j]? =some p→p.length=m.size)→parts.flatten.length=MV.sizes l
 | [],[],_,_=>rfl
 | m :: l,p :: parts,hl,h=>by
  rw [b₀,a₅,h 0 m p rfl rfl,BM (by simpa using hl) fun j m p h1 h2=>h (j + 1) m p h1 h2]
  rfl
 | [],_ :: _,h,_=>by simp at h
 | _ :: _,[],h,_=>by simp at h
theorem dk.size (h:dk w P adr m vs):vs.length=m.size:=by
 induction h with
 | st parts hp hr ih=>exact BM hp ih
 | arr parts hl hp ej hr ih=>rw [aU ej,hp];rfl
 | _=>rfl
theorem dk.scalar (h:dk w P adr m vs) (ha:m.isAgg=false): ∃v,vs= [v] :=by
 cases h <;> first | exact⟨_,rfl⟩ | cases ha
theorem lW (h:dk w P adr m vs):(valM m vs).cells.toList=vs:=by
 unfold valM;cases ha:m.isAgg with
 | true=>rfl
 | false=>
  cases h <;> first | rfl | cases ha
theorem kI: ∀{l:List MV},MV.idFrees l=true→∀(j:Nat) m,l[j]? =some m→m.idFree=true
 | [],_,j,m,h=>by simp at h
 | x :: l,h,j,m,hj=>by
  have h:(x.idFree && MV.idFrees l)=true:=h
  rw [a₁] at h
  cases j with
  | zero=>simp at hj;subst hj;exact h.1
  | succ j=>exact kI h.2 j m (by simpa using hj)
theorem dk.free (h:dk w P adr m vs):m.idFree=true→dk w P noAdr m vs:=by
 induction h with
 | int=>intro _;exact .int
 | bool=>intro _;exact .bool
 | str=>intro _;exact .str
 | nilp=>intro _;exact .nilp
 | ptr g h=>intro h;cases h
 | gp=>intro _;exact .gp
 | ep b o vs hc hr ih=>intro _;exact .ep b o vs hc hr
 | sl A cap es parts hl hp ej OJ iq hc hr ih=>intro _;exact .sl A cap es parts hl hp ej OJ iq hc hr
 | nils=>intro _;exact .nils
 | ms0=>intro h;cases h
 | ms=>intro h;cases h
 | fn parts hp hr ih=>intro hf;exact .fn parts hp fun j m p h1 h2=>ih j m p h1 h2 (kI hf j m h1)
 | nilf=>intro _;exact .nilf
 | mp g h=>intro h;cases h
 | nili=>intro _;exact .nili
 | ifc cs hr ih=>intro hf;exact .ifc cs (ih hf)
 | st parts hp hr ih=>intro hf;exact .st parts hp fun j m p h1 h2=>ih j m p h1 h2 (kI hf j m h1)
 | arr parts hl hp ej hr ih=>intro _;exact .arr parts hl hp ej hr
theorem dk.ofNone (h:dk w P noAdr m vs):dk w P adr m vs:=h.keep ⟨fun _ _ h=>h,fun _ _ _=>rfl,fun _ _ h=>(nomatch h),fun _ _ _ _ h=>nomatch h⟩
theorem dk.one (h:dk w P adr m vs): ∀v∈vs,v.oneCell'=true:=by
 induction h with
 | st parts hp hr ih=>
  intro v hv;obtain⟨p,OI,hv⟩:=f₅.1 hv;obtain⟨j,hj,rfl⟩:=d₅.1 OI;exact ih j _ _ (a₃ om) (a₃ hj) v hv
 | arr parts hl hp ej hr ih=>
  intro v hv;obtain⟨p,OI,hv⟩:=f₅.1 hv;obtain⟨j,hj,rfl⟩:=d₅.1 OI;exact ih j _ _ (a₃ om) (a₃ hj) v hv
 | _=>intro v hv;simp at hv;subst hv;rfl
end
end
section
def cE:List MV→Nat→Option MV
 | [],_=>none
 | x :: _,0=>some x
 | _ :: l,n + 1=>cE l n
theorem bZ: ∀(l:List MV) (n:Nat),cE l n=l[n]?
 | [],_=>by simp [cE]
 | x :: l,0=>rfl
 | x :: l,n + 1=>by simp [cE,bZ l n]
def fV:List MV→Nat→Nat
 | [],_=>0
 | _,0=>0
 | m :: l,n + 1=>m.size + fV l n
def fj:MV→List Nat→Nat→Option MV
 | m,[],fo=>bif a₂ fo 0 then some m else none
 | .st l,i :: p,fo=>match cE l i with
  | some m=>bif d₃ (fV l i) fo then fj m p (fo - fV l i) else none
  | none=>none
 | .arr _ es l,i :: p,fo=>match cE l i with
  | some m=>bif d₃ (i * es) fo then fj m p (fo - i * es) else none
  | none=>none
 | _,_ :: _,_=>none
def setL:List MV→Nat→MV→List MV
 | [],_,_=> []
 | _ :: l,0,v=>v :: l
 | x :: l,n + 1,v=>x :: setL l n v
theorem setL_eq: ∀(l:List MV) (n:Nat) (v:MV),setL l n v=l.set n v
 | [],_,_=>by simp [setL]
 | x :: l,0,v=>rfl
 | x :: l,n + 1,v=>by simp [setL,setL_eq l n v]
def fk:MV→List Nat→Nat→MV→Option MV
 | m,[],fo,v=>bif a₂ fo 0 && a₂ v.size m.size then(match v.isAgg,m.isAgg with | true,true | false,false=>some v | _,_=>none) else none
 | .st l,i :: p,fo,v=>match cE l i with
  | some m=>bif d₃ (fV l i) fo then(match fk m p (fo - fV l i) v with | some m'=>some (.st (setL l i m')) | none=>none) else none
  | none=>none
 | .arr n es l,i :: p,fo,v=>match cE l i with
  | some m=>bif d₃ (i * es) fo && v.idFree then(match fk m p (fo - i * es) v with | some m'=>some (.arr n es (setL l i m')) | none=>none) else none
  | none=>none
 | _,_ :: _,_,_=>none
section
variable {w w':World} {P P':cB} {adr aN:gG} {m r v:MV} {vs cs:List Value}
theorem cK: ∀{parts:List (List Value)} {i:Nat} {p:List Value},parts[i]? =some p→parts.flatten=(parts.take i).flatten ++ p ++ (parts.drop (i + 1)).flatten
 | q :: parts,0,p,h=>by simp at h;subst h;simp
 | q :: parts,i + 1,p,h=>by
  have:=cK (parts:=parts) (i:=i) (p:=p) (by simpa using h)
  simp only [b₀,d₉,g₄]
  rw [this];simp
 | [],i,p,h=>by simp at h
theorem kJ: ∀{parts:List (List Value)} {i:Nat} {p q:List Value},parts[i]? =some p→(parts.set i q).flatten=(parts.take i).flatten ++ q ++ (parts.drop (i + 1)).flatten
 | x :: parts,0,p,q,h=>by simp
 | x :: parts,i + 1,p,q,h=>by
  have:=kJ (parts:=parts) (i:=i) (p:=p) (q:=q) (by simpa using h)
  simp only [g₆,b₀,d₉,g₄]
  rw [this];simp
 | [],i,p,q,h=>by simp at h
theorem lX: ∀{l:List MV} {parts:List (List Value)} {i:Nat},parts.length=l.length→(∀(j:Nat) m p,l[j]? =some m→parts[j]? =some p→p.length=m.size)→(parts.take i).flatten.length=fV l i
 | [],[],i,_,_=>by cases i <;> rfl
 | m :: l,p :: parts,0,_,_=>rfl
 | m :: l,p :: parts,i + 1,hl,h=>by
  rw [d₉,b₀,a₅,h 0 m p rfl rfl,lX (by simpa using hl) fun j m p h1 h2=>h (j + 1) m p h1 h2]
  rfl
 | [],_ :: _,_,h,_=>by simp at h
 | _ :: _,[],_,h,_=>by simp at h
theorem dv {α β:Type} {l:List α} {parts:List β} (h:parts.length=l.length) {i:Nat} {m:α} (hm:l[i]? =some m): ∃p,parts[i]? =some p:=by
 have:=(a₄.1 hm).1;exact⟨parts[i]'om,a₃ om⟩
theorem oK: ∀{path:List Nat} {fo:Nat} {m:MV} {vs:List Value} {adr:gG},dk w P adr m vs→fj m path fo=some r→∃pre cs post,vs=pre ++ cs ++ post∧pre.length=fo∧dk w P adr r cs
 | [],fo,m,vs,adr,h,hg=>by
  have hg:(bif a₂ fo 0 then some m else none)=some r:=by cases m <;> exact hg
  cases hb:a₂ fo 0 with
  | false=>rw [hb] at hg;cases hg
  | true=>
   rw [hb] at hg
   have:=a₀ hb
   injection hg with hg
   subst hg;subst this
   exact⟨[],vs,[],sm,rfl,h⟩
 | i :: p,fo,m,vs,adr,h,hg=>by
  cases h with
  | st parts hp hr=>
   rename_i l
   simp only [fj] at hg
   split at hg
   ·rename_i m' hm
    rw [bZ] at hm
    cases hb:d₃ (fV l i) fo with
    | false=>rw [hb] at hg;cases hg
    | true=>
     rw [hb] at hg
     have hle:=c₇ hb
     obtain⟨q,hq⟩:=dv hp hm
     obtain⟨pre,cs,post,h1,h2,h3⟩:=oK (hr i m' q hm hq) hg
     have hs:=lX (i:=i) hp fun j m p h1 h2=>(hr j m p h1 h2).size
     refine⟨(parts.take i).flatten ++ pre,cs,post ++ (parts.drop (i + 1)).flatten,?_,?_,h3⟩
     ·rw [cK hq,h1];simp
     ·rw [a₅,hs,h2];omega
   ·cases hg
  | arr parts hl hp ej hr=>
   rename_i n es l
   simp only [fj] at hg
   split at hg
   ·rename_i m' hm
    rw [bZ] at hm
    cases hb:d₃ (i * es) fo with
    | false=>rw [hb] at hg;cases hg
    | true=>
     rw [hb] at hg
     have hle:=c₇ hb
     obtain⟨q,hq⟩:=dv (hp.trans hl.symm) hm
     obtain⟨pre,cs,post,h1,h2,h3⟩:=oK (hr i m' q hm hq) hg
     have hi:=(a₄.1 hq).1
     have hs:(parts.take i).flatten.length=i * es:=by
      rw [aU (es:=es) fun x hx=>ej x (b₄ hx),a₇,b₉ om]
     refine⟨(parts.take i).flatten ++ pre,cs,post ++ (parts.drop (i + 1)).flatten,?_,?_,h3.ofNone⟩
     ·rw [cK hq,h1];simp
     ·rw [a₅,hs,h2];omega
   ·cases hg
  | _=>simp [fj] at hg
theorem cO {α:Type} {l:List α} {i j:Nat} {x y:α} (h:(l.set i x)[j]? =some y):(j=i∧y=x)∨(j≠i∧l[j]? =some y):=by
 rw [e₃] at h;split at h
 ·rename_i e;split at h
  ·injection h with h;exact .inl ⟨e.symm,h.symm⟩
  ·cases h
 ·rename_i e;exact .inr ⟨fun h=>e h.symm,h⟩
theorem sQ: ∀{path:List Nat} {fo:Nat} {m m':MV} {vs:List Value} {adr:gG},dk w P adr m vs→fk m path fo v=some m'→dk w P adr v cs→
  ∃pre old post,vs=pre ++ old ++ post∧pre.length=fo∧old.length=cs.length∧dk w P adr m' (pre ++ cs ++ post)∧m'.isAgg=m.isAgg∧(m.idFree=true→v.idFree=true→m'.idFree=true)
 | [],fo,m,m',vs,adr,h,hs,hv=>by
  have jc:(bif a₂ fo 0 && a₂ v.size m.size then(match v.isAgg,m.isAgg with | true,true | false,false=>some v | _,_=>none) else none)=some m':=by cases m <;> exact hs
  clear hs
  cases hb:(a₂ fo 0 && a₂ v.size m.size) with
  | false=>rw [hb] at jc;cases jc
  | true=>
   rw [hb] at jc
   rw [a₁] at hb
   have h0:=a₀ hb.1
   have h1:=a₀ hb.2
   subst h0
   have R7:v=m'∧v.isAgg=m.isAgg:=by
    have hs:(match v.isAgg,m.isAgg with | true,true | false,false=>some v | _,_=>none)=some m':=jc
    split at hs
    ·rename_i e1 e2;injection hs with hs;exact⟨hs,e1.trans e2.symm⟩
    ·rename_i e1 e2;injection hs with hs;exact⟨hs,e1.trans e2.symm⟩
    ·cases hs
   obtain⟨rfl,R7⟩:=R7
   exact⟨[],vs,[],sm,rfl,by rw [h.size,hv.size,h1],by simpa using hv,R7,fun _ h=>h⟩
 | i :: p,fo,m,m',vs,adr,h,hs,hv=>by
  cases h with
  | st parts hp hr=>
   rename_i l
   simp only [fk] at hs
   split at hs
   ·rename_i x hx
    rw [bZ] at hx
    cases hb:d₃ (fV l i) fo with
    | false=>rw [hb] at hs;cases hs
    | true=>
     rw [hb] at hs
     have hle:=c₇ hb
     simp only [cond_true] at hs
     split at hs
     ·rename_i x' Gm
      injection hs with hs
      subst hs
      obtain⟨q,hq⟩:=dv hp hx
      obtain⟨pre,old,post,h1,h2,h3,h4,h5,h6⟩:=sQ (hr i x q hx hq) Gm hv
      have hs:=lX (i:=i) hp fun j m p h1 h2=>(hr j m p h1 h2).size
      refine⟨(parts.take i).flatten ++ pre,old,post ++ (parts.drop (i + 1)).flatten,?_,?_,h3,?_,rfl,?_⟩
      ·rw [cK hq,h1];simp
      ·rw [a₅,hs,h2];omega
      ·have e:(parts.take i).flatten ++ pre ++ cs ++ (post ++ (parts.drop (i + 1)).flatten)=(parts.set i (pre ++ cs ++ post)).flatten:=by
        rw [kJ hq];simp
       rw [e,setL_eq]
       refine .st _ (by simpa using hp) fun j y z hy hz=>?_
       rcases cO hy with ⟨rfl,rfl⟩ | ⟨gf,hy⟩
       ·rcases cO hz with ⟨_,rfl⟩ | ⟨gf,_⟩
        ·exact h4
        ·exact absurd rfl gf
       ·rcases cO hz with ⟨rfl,_⟩ | ⟨_,hz⟩
        ·exact absurd rfl gf
        ·exact hr j y z hy hz
      ·intro hf hvf
       have key: ∀{l:List MV} {i:Nat},MV.idFrees l=true→x'.idFree=true→MV.idFrees (setL l i x')=true:=by
        intro l
        induction l with
        | nil=>intro i _ _;rfl
        | cons a l ih=>
         intro i h1 h2
         have h1:(a.idFree && MV.idFrees l)=true:=h1
         rw [a₁] at h1
         cases i with
         | zero=>show (x'.idFree && MV.idFrees l)=true;rw [h2,h1.2];rfl
         | succ i=>show (a.idFree && MV.idFrees (setL l i x'))=true;rw [h1.1,ih h1.2 h2];rfl
       exact key hf (h6 (kI hf i x hx) hvf)
     ·cases hs
   ·cases hs
  | arr parts hl hp ej hr=>
   rename_i n es l
   simp only [fk] at hs
   split at hs
   ·rename_i x hx
    rw [bZ] at hx
    cases hb:(d₃ (i * es) fo && v.idFree) with
    | false=>rw [hb] at hs;cases hs
    | true=>
     rw [hb] at hs
     rw [a₁] at hb
     have hle:=c₇ hb.1
     simp only [cond_true] at hs
     split at hs
     ·rename_i x' Gm
      injection hs with hs
      subst hs
      obtain⟨q,hq⟩:=dv (hp.trans hl.symm) hx
      obtain⟨pre,old,post,h1,h2,h3,h4,h5,h6⟩:=sQ (hr i x q hx hq) Gm (hv.free hb.2)
      have hi:=(a₄.1 hq).1
      have hs:(parts.take i).flatten.length=i * es:=by
       rw [aU (es:=es) fun x hx=>ej x (b₄ hx),a₇,b₉ om]
      have Kp:=ej q (a₉ hq)
      refine⟨(parts.take i).flatten ++ pre,old,post ++ (parts.drop (i + 1)).flatten,?_,?_,h3,?_,rfl,fun _ _=>rfl⟩
      ·rw [cK hq,h1];simp
      ·rw [a₅,hs,h2];omega
      ·have e:(parts.take i).flatten ++ pre ++ cs ++ (post ++ (parts.drop (i + 1)).flatten)=(parts.set i (pre ++ cs ++ post)).flatten:=by
        rw [kJ hq];simp
       rw [e,setL_eq]
       refine .arr _ (by simpa using hl) (by simpa using hp) (fun z hz=>?_) fun j y z hy hz=>?_
       ·rcases f₂ hz with hz | rfl
        ·exact ej z hz
        ·rw [h1] at Kp
         simp only [a₅] at Kp ⊢
         omega
       ·rcases cO hy with ⟨rfl,rfl⟩ | ⟨gf,hy⟩
        ·rcases cO hz with ⟨_,rfl⟩ | ⟨gf,_⟩
         ·exact h4
         ·exact absurd rfl gf
        ·rcases cO hz with ⟨rfl,_⟩ | ⟨_,hz⟩
         ·exact absurd rfl gf
         ·exact hr j y z hy hz
     ·cases hs
   ·cases hs
  | _=>simp [fk] at hs
end
end
section
structure MB where
 ty:TypeId
 es:Nat
 row:Bool
 pe:Nat
 l:List MV
abbrev FM:=Nat→Option MB
def aR {α:Type} (m:Nat→Option α) (c:Nat) (b:α):Nat→Option α:=fun x=>if x=c then some b else m x
def jJ {α:Type} (m:Nat→Option α) (c:Nat):Nat→Option α:=fun x=>if x=c then none else m x
theorem aI {α:Type} (m:Nat→Option α) (c:Nat) (b:α):aR m c b c=some b:=by simp [aR]
theorem aL {α:Type} (m:Nat→Option α) {c x:Nat} (b:α) (h:x≠c):aR m c b x=m x:=by simp [aR,h]
theorem oL {α:Type} {m:Nat→Option α} {c x:Nat} {b:α} (h:jJ m c x=some b):x≠c∧m x=some b:=by
 unfold jJ at h;split at h
 ·cases h
 ·exact⟨by assumption,h⟩
def Ii (w:World) (P:cB) (adr:gG) (b:MB) (g:Nat):Prop:= ∃(cur:Array Value) (parts:List (List Value)),w.heap[g]? =some (.cells cur b.ty (0,0))∧parts.length=b.l.length∧(∀p∈parts,p.length=b.es)∧
  (∀(j:Nat) x p,b.l[j]? =some x→parts[j]? =some p→dk w P (if b.row then noAdr else adr) x p)∧parts.flatten <+:cur.toList
def jd (w:World) (P:cB):List MV→List MV→List MapEntry→Prop
 | [],[],[] =>True
 | k :: ks,v :: vs,e :: es=>aM w P noAdr k e.key∧aM w P noAdr v e.val∧jd w P ks vs es
 | _,_,_=>False
def Aa (w:World) (P:cB) (ks vs:List MV) (o:Obj):Prop:=(∃(Ez:Nat) (es:Array MapEntry),o= .map es Ez∧jd w P ks vs es.toList)∨∃(s:List UInt8) (pos:Nat),ks= [.str s] ∧vs= [.nilp, .int .i64 pos] ∧o= .stringIter ⟨s.toArray⟩ pos
def S8 (w:World) (P:cB) (b:MB) (g:Nat):Prop:=b.row=false∧b.es=0∧∃(ks vs:List MV) (o:Obj),b.l= [.mpv ks vs] ∧w.heap[g]? =some o∧Aa w P ks vs o
theorem Aa.cells {w:World} {P:cB} {ks vs:List MV} {cur:Array Value} {t:TypeId} {x:Nat×Nat} (h:Aa w P ks vs (.cells cur t x)):False:=by
 rcases h with ⟨_,_,h,_⟩ | ⟨_,_,_,_,h⟩ <;> cases h
structure py (w:World) (P:cB) (adr:gG) (b:MB) (g:Nat):Prop where
 has':Ii w P adr b g∨S8 w P b g
 pe: ∀o,P g o→o < b.pe * b.es
 le:b.pe≤b.l.length
structure bf (w:World) (P:cB) (adr:gG) (m:FM):Prop where
 blk: ∀c b,m c=some b→(b.row=true∧b.l= [] ∧adr c=none∧b.pe=0)∨∃g,adr c=some g∧py w P adr b g
 inj: ∀c c' b b' g,m c=some b→m c'=some b'→adr c=some g→adr c'=some g→c=c'
 prot: ∀b o,P b o→b < w.heap.size
section
variable {w w':World} {P P':cB} {adr aN:gG} {m m':FM} {b:MB} {g c:Nat}
theorem bJ.sub (k:bJ w w' P P' adr aN) (r:Bool):bJ w w' P P' (if r then noAdr else adr) (if r then noAdr else aN):=by
 cases r
 ·exact k
 ·exact k.free
theorem py.lt (h:py w P adr b g):g < w.heap.size:=by
 rcases h.has' with ⟨cur,parts,h1,_⟩ | ⟨_,_,_,_,_,_,h1,_⟩
 ·exact(Array.getElem?_eq_some_iff.1 h1).1
 ·exact(Array.getElem?_eq_some_iff.1 h1).1
theorem jd.keep (k:bJ w w' P P' adr aN): ∀{ks vs:List MV} {es:List MapEntry},jd w P ks vs es→jd w' P' ks vs es
 | [],[],[],_=>trivial
 | _ :: _,_ :: _,_ :: _,h=>⟨h.1.keep k.free,h.2.1.keep k.free,jd.keep k h.2.2⟩
 | [],[],_ :: _,h=>h.elim
 | [],_ :: _,_,h=>h.elim
 | _ :: _,[],_,h=>h.elim
 | _ :: _,_ :: _,[],h=>h.elim
theorem Aa.keep (k:bJ w w' P P' adr aN) {ks vs:List MV} {o:Obj} (h:Aa w P ks vs o):Aa w' P' ks vs o:=by
 rcases h with ⟨Ez,es,h1,h2⟩ | h
 ·exact .inl ⟨Ez,es,h1,h2.keep k⟩
 ·exact .inr h
theorem py.ofE (h:py w P adr b g) (he:b.es≠0):Ii w P adr b g:=h.has'.elim id fun h=>absurd h.2.1 he
theorem py.ofR (h:py w P adr b g) (hr:b.row=true):Ii w P adr b g:=h.has'.elim id fun h=>by rw [h.1] at hr;cases hr
theorem py.ofL (h:py w P adr b g) (hl: ∀ks vs,b.l≠ [.mpv ks vs]):Ii w P adr b g:=h.has'.elim id fun h=>by
 obtain⟨_,_,ks,vs,_,e,_⟩:=h;exact absurd e (hl ks vs)
theorem py.ofX (h:py w P adr b g) {k:Nat} {x:MV} (hx:b.l[k]? =some x) (hn: ∀ks vs,x≠ .mpv ks vs):Ii w P adr b g:=h.ofL fun ks vs e=>by
 rw [e] at hx;cases k with
 | zero=>injection hx with hx;exact hn ks vs hx.symm
 | succ k=>simp at hx
theorem py.keep (h:py w P adr b g) (k:bJ w w' P P' adr aN) (hg:w'.heap[g]? =w.heap[g]?) (hp: ∀o,P' g o→P g o):py w' P' aN b g:=by
 refine⟨?_,fun o ho=>h.pe o (hp o ho),h.le⟩;rcases h.has' with ⟨cur,parts,h1,h2,h3,h4,h5⟩ | ⟨h1,h2,ks,vs,o,h3,h4,h5⟩
 ·exact .inl ⟨cur,parts,hg.trans h1,h2,h3,fun j x p hx hq=>(h4 j x p hx hq).keep (k.sub b.row),h5⟩
 ·exact .inr ⟨h1,h2,ks,vs,o,h3,hg.trans h4,h5.keep k⟩
def jK (w w':World) (P:cB):cB:=fun b o=>P b o∨(w.heap.size≤b∧b < w'.heap.size)
theorem iL {b o:Nat} (h:w'.heap[b]? =w.heap[b]?):w'.cell? ⟨b,o,none⟩=w.cell? ⟨b,o,none⟩:=World.cell?_of_block (a:=⟨b,o,none⟩) h
theorem bJ.below (hI: ∀b o,P b o→b < w.heap.size) (hb:Below w.heap.size w w'):bJ w w' P (jK w w' P) adr adr:=
 ⟨fun _ _ h=> .inl h,fun b o h=>iL (hb.block b (hI b o h)),fun _ _ h=>h,fun _c g cur _ty _ hw=>⟨cur,(hb.block g (Array.getElem?_eq_some_iff.1 hw).1).trans hw,rfl⟩⟩
theorem bf.below (h:bf w P adr m) (hb:Below w.heap.size w w'):bf w' (jK w w' P) adr m:=by
 refine⟨fun c b hc=>?_,h.inj,fun b o hp=>?_⟩
 ·rcases h.blk c b hc with h1 | ⟨g,h1,h2⟩
  ·exact .inl h1
  ·refine .inr ⟨g,h1,h2.keep (bJ.below h.prot hb) (hb.block g h2.lt) fun o ho=>?_⟩;rcases ho with ho | ho
   ·exact ho
   ·exact absurd h2.lt om
 ·rcases hp with hp | hp
  ·exact g₇ (h.prot b o hp) hb.size
  ·exact hp.2
theorem Below.alloc1 (w:World) (o:Obj):Below w.heap.size w (w.alloc o):=(Below.refl _ _).alloc (e₉ _) _
theorem bJ.below' (hI: ∀b o,P b o→b < w.heap.size) (hb:Below w.heap.size w w'):bJ w w' P P adr adr:=
 ⟨fun _ _ h=>h,fun b o h=>iL (hb.block b (hI b o h)),fun _ _ h=>h,fun _c g cur _ty _ hw=>⟨cur,(hb.block g (Array.getElem?_eq_some_iff.1 hw).1).trans hw,rfl⟩⟩
theorem bJ.adr1 (hc:adr c=none) (g:Nat):bJ w w P P adr (aR adr c g):=
 ⟨fun _ _ h=>h,fun _ _ _=>rfl,fun x y h=>by
  by_cases e:x=c
  ·subst e;rw [hc] at h;cases h
  ·rw [aL _ _ e];exact h,fun _ _ cur _ _ h=>⟨cur,h,rfl⟩⟩
theorem bf.newG (h:bf w P adr m) (hc:adr c=none) (hm:m c=none) (hb:Below w.heap.size w w') (hB:bJ w w' P P adr (aR adr c w.heap.size)→Ii w' P (aR adr c w.heap.size) b w.heap.size∨S8 w' P b w.heap.size) (hle:b.pe≤b.l.length) :
  bf w' P (aR adr c w.heap.size) (aR m c b)∧bJ w w' P P adr (aR adr c w.heap.size):=by
 have k:bJ w w' P P adr (aR adr c w.heap.size):=(bJ.below' h.prot hb).trans (bJ.adr1 hc _)
 have xQ: ∀o,¬ P w.heap.size o:=fun o ho=>absurd (h.prot _ _ ho) (Nat.lt_irrefl _)
 refine⟨⟨fun x y hx=>?_,fun x y bx bY g hx hy pK pI=>?_,fun b o hp=>g₇ (h.prot b o hp) hb.size⟩,k⟩
 ·by_cases e:x=c
  ·subst e
   rw [aI] at hx
   injection hx with hx
   subst hx
   exact .inr ⟨_,aI _ _ _,hB k,fun o ho=>absurd ho (xQ o),hle⟩
  ·rw [aL _ _ e] at hx
   rcases h.blk x y hx with h1 | ⟨g,h1,h2⟩
   ·exact .inl ⟨h1.1,h1.2.1,by rw [aL _ _ e];exact h1.2.2.1,h1.2.2.2⟩
   ·exact .inr ⟨g,by rw [aL _ _ e];exact h1,h2.keep k (hb.block g h2.lt) fun o ho=>ho⟩
 ·have old: ∀{x:Nat} {bx:MB} {g:Nat},x≠c→aR m c b x=some bx→aR adr c w.heap.size x=some g→m x=some bx∧adr x=some g∧g < w.heap.size:=by
   intro x bx g e hx hg
   rw [aL _ _ e] at hx hg
   rcases h.blk x bx hx with h1 | ⟨g',h1,h2⟩
   ·rw [h1.2.2.1] at hg;cases hg
   ·rw [h1] at hg;injection hg with hg;subst hg;exact⟨hx,h1,h2.lt⟩
  by_cases ex:x=c
  ·by_cases ey:y=c
   ·exact ex.trans ey.symm
   ·subst ex
    rw [aI] at pK
    injection pK with pK
    obtain⟨_,_,h3⟩:=old ey hy pI
    omega
  ·by_cases ey:y=c
   ·subst ey
    rw [aI] at pI
    injection pI with pI
    obtain⟨_,_,h3⟩:=old ex hx pK
    omega
   ·obtain⟨a1,a2,_⟩:=old ex hx pK
    obtain⟨b1,b2,_⟩:=old ey hy pI
    exact h.inj x y bx bY g a1 b1 a2 b2
theorem bf.new (h:bf w P adr m) (hc:adr c=none) (hm:m c=none) (hb:Below w.heap.size w w') {cur:Array Value} {parts:List (List Value)} (hg:w'.heap[w.heap.size]? =some (.cells cur b.ty (0,0))) (jD:parts.length=b.l.length) (hpe: ∀p∈parts,p.length=b.es)
  (hr: ∀(j:Nat) x p,b.l[j]? =some x→parts[j]? =some p→dk w P (if b.row then noAdr else adr) x p) (Om:parts.flatten <+:cur.toList) (hle:b.pe≤b.l.length) :
  bf w' P (aR adr c w.heap.size) (aR m c b)∧bJ w w' P P adr (aR adr c w.heap.size):=
 h.newG hc hm hb (fun k=> .inl ⟨cur,parts,hg,jD,hpe,fun j x p h1 h2=>(hr j x p h1 h2).keep (k.sub b.row),Om⟩) hle
theorem bf.sub (h:bf w P adr m) (hs: ∀c b,m' c=some b→m c=some b):bf w P adr m':=⟨fun c b hc=>h.blk c b (hs c b hc),fun c c' b b' g h1 h2=>h.inj c c' b b' g (hs _ _ h1) (hs _ _ h2),h.prot⟩
theorem eH {α:Type} {l r:List α} (h:l <+:r) {j:Nat} {x:α} (hx:l[j]? =some x):r[j]? =some x:=by
 obtain⟨t,rfl⟩:=h;rw [b₂ (a₄.1 hx).1];exact hx
theorem bf.write (h:bf w P adr m) {b':MB} (hlen:b.l.length≤b'.l.length) (hm:m c=some b) (ha:adr c=some g) (hty:b'.ty=b.ty) (ej:b'.es=b.es) (hpe:b'.pe=b.pe) {cur cur':Array Value} (hg:w.heap[g]? =some (.cells cur b.ty (0,0))) (gM:cur'.size=cur.size)
  (NW: ∀o,P g o→cur'[o]? =cur[o]?) {parts:List (List Value)} (jD:parts.length=b'.l.length) (pH: ∀p∈parts,p.length=b'.es)
  (hr: ∀(j:Nat) x p,b'.l[j]? =some x→parts[j]? =some p→dk w P (if b'.row then noAdr else adr) x p) (Om:parts.flatten <+:cur'.toList) :
  bf (w.setRow g cur') P adr (aR m c b')∧bJ w (w.setRow g cur') P P adr adr:=by
 have X1:=setRow_heap w g cur cur' b.ty (0,0) hg
 have k:bJ w (w.setRow g cur') P P adr adr:=by
  refine⟨fun _ _ h=>h,fun x o hp=>?_,fun _ _ h=>h,fun c' g' cu ty hc hw=>?_⟩
  ·by_cases e:x=g
   ·subst e
    rw [cell_of_row _ x o cur' b.ty (0,0) X1,cell_of_row _ x o cur b.ty (0,0) hg]
    exact NW o hp
   ·exact iL (setRow_other _ _ _ _ e)
  ·by_cases e:g'=g
   ·subst e
    rw [hg] at hw
    injection hw with hw
    injection hw with h1 h2
    subst h1;subst h2
    exact⟨cur',X1,gM⟩
   ·exact⟨cu,(setRow_other _ _ _ _ e).trans hw,rfl⟩
 refine⟨⟨fun x y hx=>?_,fun x y bx bY g' hx hy pK pI=>?_,fun b o hp=>by simpa using h.prot b o hp⟩,k⟩
 ·by_cases e:x=c
  ·subst e
   rw [aI] at hx
   injection hx with hx
   subst hx
   refine .inr ⟨g,ha, .inl ⟨cur',parts,by rw [hty];exact X1,jD,pH,fun j x p h1 h2=>(hr j x p h1 h2).keep (k.sub b'.row),Om⟩,fun o ho=>?_,?_⟩
   rw [hpe,ej]
   rcases h.blk x b hm with h1 | ⟨g',h1,h2⟩
   ·rw [ha] at h1;cases h1.2.2.1
   ·rw [ha] at h1;injection h1 with h1;subst h1;exact h2.pe o ho
   rw [hpe]
   rcases h.blk x b hm with h1 | ⟨g',h1,h2⟩
   ·rw [ha] at h1;cases h1.2.2.1
   ·exact Nat.le_trans h2.le hlen
  ·rw [aL _ _ e] at hx
   rcases h.blk x y hx with h1 | ⟨g',h1,h2⟩
   ·exact .inl h1
   ·refine .inr ⟨g',h1,h2.keep k (setRow_other _ _ _ _ fun eg=>e ?_) fun o ho=>ho⟩
    subst eg
    exact h.inj x c y b g' hx hm h1 ha
 ·have old: ∀{x:Nat} {bx:MB},aR m c b' x=some bx→∃Eh,m x=some Eh:=by
   intro x bx hx
   by_cases e:x=c
   ·subst e;exact⟨b,hm⟩
   ·rw [aL _ _ e] at hx;exact⟨bx,hx⟩
  obtain⟨_,h1⟩:=old hx
  obtain⟨_,h2⟩:=old hy
  exact h.inj x y _ _ g' h1 h2 pK pI
theorem bf.writeM (h:bf w P adr m) {ks vs ks' vs':List MV} (hm:m c=some b) (hl:b.l= [.mpv ks vs]) (ha:adr c=some g) {o o':Obj} (hg:w.heap[g]? =some o) (Yn:Aa w P ks vs o) (X1:w'.heap[g]? =some o') (UB: ∀x,x≠g→w'.heap[x]? =w.heap[x]?) (gM:w'.heap.size=w.heap.size) (hE:Aa w P ks' vs' o') :
  bf w' P adr (aR m c { b with l:= [.mpv ks' vs'] })∧bJ w w' P P adr adr:=by
 have hB:S8 w P b g∧b.pe≤b.l.length∧∀o,P g o→o < b.pe * b.es:=by
  rcases h.blk c b hm with h1 | ⟨g',h1,h2⟩
  ·rw [ha] at h1;cases h1.2.2.1
  ·rw [ha] at h1;injection h1 with h1;subst h1
   rcases h2.has' with ⟨cur,_,h3,_⟩ | h3
   ·rw [hg] at h3;injection h3 with h3;subst h3;exact Yn.cells.elim
   ·exact⟨h3,h2.le,h2.pe⟩
 obtain⟨hB,hle,hpe⟩:=hB
 have H5: ∀o,¬ P g o:=fun o ho=>by have:=hpe o ho;rw [hB.2.1,Nat.mul_zero] at this;omega
 have k:bJ w w' P P adr adr:=by
  refine⟨fun _ _ h=>h,fun x o hp=>?_,fun _ _ h=>h,fun c' g' cu ty hc hw=>?_⟩
  ·by_cases e:x=g
   ·subst e;exact absurd hp (H5 o)
   ·exact iL (UB _ e)
  ·by_cases e:g'=g
   ·subst e;rw [hg] at hw;injection hw with hw;subst hw;exact Yn.cells.elim
   ·exact⟨cu,(UB _ e).trans hw,rfl⟩
 refine⟨⟨fun x y hx=>?_,fun x y bx bY g' hx hy pK pI=>?_,fun b o hp=>by rw [gM];exact h.prot b o hp⟩,k⟩
 ·by_cases e:x=c
  ·subst e
   rw [aI] at hx
   injection hx with hx
   subst hx
   refine .inr ⟨g,ha, .inr ⟨hB.1,hB.2.1,ks',vs',o',rfl,X1,hE.keep k⟩,fun o ho=>absurd ho (H5 o),?_⟩
   rw [hl] at hle
   exact hle
  ·rw [aL _ _ e] at hx
   rcases h.blk x y hx with h1 | ⟨g',h1,h2⟩
   ·exact .inl h1
   ·refine .inr ⟨g',h1,h2.keep k (UB _ fun eg=>e ?_) fun o ho=>ho⟩
    subst eg
    exact h.inj x c y b g' hx hm h1 ha
 ·have old: ∀{x:Nat} {bx:MB},aR m c { b with l:= [.mpv ks' vs'] } x=some bx→∃Eh,m x=some Eh:=by
   intro x bx hx
   by_cases e:x=c
   ·subst e;exact⟨b,hm⟩
   ·rw [aL _ _ e] at hx;exact⟨bx,hx⟩
  obtain⟨_,h1⟩:=old hx
  obtain⟨_,h2⟩:=old hy
  exact h.inj x y _ _ g' h1 h2 pK pI
theorem bf.rename {d:Nat} (h:bf w P adr (aR m c b)) (ha:adr c=some g) (hd:adr d=none) (hm:m d=none):bf w P (aR adr d g) (aR (jJ m c) d b)∧bJ w w P P adr (aR adr d g):=by
 have k:bJ w w P P adr (aR adr d g):=bJ.adr1 hd g;have hcd:c≠d:=by rintro rfl;rw [ha] at hd;cases hd
 have old: ∀{x:Nat} {y:MB},x≠d→aR (jJ m c) d b x=some y→x≠c∧aR m c b x=some y:=by
  intro x y e hx;rw [aL _ _ e] at hx;obtain⟨h1,h2⟩:=oL hx;exact⟨h1,by rw [aL _ _ h1];exact h2⟩
 refine⟨⟨fun x y hx=>?_,fun x y bx bY g' hx hy pK pI=>?_,h.prot⟩,k⟩
 ·by_cases e:x=d
  ·subst e;rw [aI] at hx;injection hx with hx
   subst hx;rcases h.blk c b (aI _ _ _) with h1 | ⟨g',h1,h2⟩
   ·rw [ha] at h1;cases h1.2.2.1
   ·rw [ha] at h1;injection h1 with h1;subst h1
    exact .inr ⟨g,aI _ _ _,h2.keep k rfl fun _ h=>h⟩
  ·obtain⟨h1,h2⟩:=old e hx;rcases h.blk x y h2 with h3 | ⟨g',h3,h4⟩
   ·exact .inl ⟨h3.1,h3.2.1,by rw [aL _ _ e];exact h3.2.2.1,h3.2.2.2⟩
   ·exact .inr ⟨g',by rw [aL _ _ e];exact h3,h4.keep k rfl fun _ h=>h⟩
 ·by_cases ex:x=d
  ·by_cases ey:y=d
   ·exact ex.trans ey.symm
   ·subst ex;rw [aI] at pK;injection pK with pK
    obtain⟨h1,h2⟩:=old ey hy;rw [aL _ _ ey,← pK] at pI;exact absurd (h.inj y c _ _ g h2 (aI _ _ _) pI ha) h1
  ·by_cases ey:y=d
   ·subst ey;rw [aI] at pI;injection pI with pI
    obtain⟨h1,h2⟩:=old ex hx;rw [aL _ _ ex,← pI] at pK;exact absurd (h.inj x c _ _ g h2 (aI _ _ _) pK ha) h1
   ·obtain⟨_,h2⟩:=old ex hx;obtain⟨_,h4⟩:=old ey hy;rw [aL _ _ ex] at pK;rw [aL _ _ ey] at pI;exact h.inj x y _ _ g' h2 h4 pK pI
theorem bf.unborn (h:bf w P adr m) (hc:adr c=none) (hr:b.row=true) (hl:b.l= []) (hpe:b.pe=0):bf w P adr (aR m c b):=by
 refine⟨fun x y hx=>?_,fun x y bx bY g hx hy pK pI=>?_,h.prot⟩
 ·by_cases e:x=c
  ·subst e;rw [aI] at hx;injection hx with hx
   subst hx;exact .inl ⟨hr,hl,hc,hpe⟩
  ·rw [aL _ _ e] at hx;exact h.blk x y hx
 ·have old: ∀{x:Nat} {y:MB},adr x=some g→aR m c b x=some y→m x=some y:=by
   intro x y hg hx;by_cases e:x=c
   ·subst e;rw [hc] at hg;cases hg
   ·rw [aL _ _ e] at hx;exact hx
  exact h.inj x y _ _ g (old pK hx) (old pI hy) pK pI
end
end
section
def tup:List Value→Value
 | [v] =>v
 | vs=> .tuple vs.toArray
section
variable {P:Program} {T:bD} {N:Nat} {ents:List FuncId}
def vy (tmps:Array Value):ResultVar→Sem Value
 | .tmp t=>pure (tmps.getD t undef)
 | .cell p t=>do loadVar t (← asAddr (tmps.getD p undef))
theorem yb {ty:TypeId} {v u:Value} {w:World} (h:(Instr.loadAt ty v).run P w= .ok u w):(do loadVar ty (← asAddr v):Sem Value).run P w= .ok u w:=by
 cases v with
 | pointer ao=>
  cases ao with
  | none=>simp [Instr.loadAt,Instr.sureAddr,stuck] at h
  | some a=>simpa [Instr.loadAt,Instr.sureAddr,asAddr] using h
 | _=>simp [Instr.loadAt,Instr.sureAddr,stuck] at h
theorem nk {fn:Func} {rs:List ResultVar} (qv:fn.results=rs.toArray) (h5:rs.length≤6) {tmps:Array Value} {w:World} {vs:List Value} (hl:vs.length=rs.length)
  (hi: ∀(i:Nat) (r:ResultVar),rs[i]? =some r→∃v,vs[i]? =some v∧(vy tmps r).run P w= .ok v w) :
  (results fn tmps).run P w= .ok (tup vs) w:=by
 have sI:results fn tmps=(do
   let vs ← fn.results.mapM (vy tmps)
   pure (if h:vs.size=1 then vs[0] else .tuple vs)):=by
  unfold results
  congr 1
 rw [sI,qv]
 match rs,vs,h5,hl,hi with
 | [],[],_,_,_=>simp [tup]
 | [r1],[v1],_,_,hi=>
  obtain⟨u1,e1,r1⟩:=hi 0 _ rfl
  simp at e1;subst e1
  simp [r1,tup]
 | [r1,r2],[v1,v2],_,_,hi=>
  obtain⟨u1,e1,q1⟩:=hi 0 _ rfl
  obtain⟨u2,e2,q2⟩:=hi 1 _ rfl
  simp at e1 e2;subst e1;subst e2
  simp [q1,q2,tup]
 | [r1,r2,r3],[v1,v2,v3],_,_,hi=>
  obtain⟨u1,e1,q1⟩:=hi 0 _ rfl
  obtain⟨u2,e2,q2⟩:=hi 1 _ rfl
  obtain⟨u3,e3,q3⟩:=hi 2 _ rfl
  simp at e1 e2 e3;subst e1;subst e2;subst e3
  simp [q1,q2,q3,tup]
 | [r1,r2,r3,r4],[v1,v2,v3,v4],_,_,hi=>
  obtain⟨u1,e1,q1⟩:=hi 0 _ rfl
  obtain⟨u2,e2,q2⟩:=hi 1 _ rfl
  obtain⟨u3,e3,q3⟩:=hi 2 _ rfl
  obtain⟨u4,e4,q4⟩:=hi 3 _ rfl
  simp at e1 e2 e3 e4;subst e1;subst e2;subst e3;subst e4
  simp [q1,q2,q3,q4,tup]
 | [r1,r2,r3,r4,r5],[v1,v2,v3,v4,v5],_,_,hi=>
  obtain⟨u1,e1,q1⟩:=hi 0 _ rfl
  obtain⟨u2,e2,q2⟩:=hi 1 _ rfl
  obtain⟨u3,e3,q3⟩:=hi 2 _ rfl
  obtain⟨u4,e4,q4⟩:=hi 3 _ rfl
  obtain⟨u5,e5,q5⟩:=hi 4 _ rfl
  simp at e1 e2 e3 e4 e5;subst e1;subst e2;subst e3;subst e4;subst e5
  simp [q1,q2,q3,q4,q5,tup]
 | [r1,r2,r3,r4,r5,r6],[v1,v2,v3,v4,v5,v6],_,_,hi=>
  obtain⟨u1,e1,q1⟩:=hi 0 _ rfl
  obtain⟨u2,e2,q2⟩:=hi 1 _ rfl
  obtain⟨u3,e3,q3⟩:=hi 2 _ rfl
  obtain⟨u4,e4,q4⟩:=hi 3 _ rfl
  obtain⟨u5,e5,q5⟩:=hi 4 _ rfl
  obtain⟨u6,e6,q6⟩:=hi 5 _ rfl
  simp at e1 e2 e3 e4 e5 e6;subst e1;subst e2;subst e3;subst e4;subst e5;subst e6
  simp [q1,q2,q3,q4,q5,q6,tup]
end
end
section
theorem eX (n:Int) (h1: -9223372036854775808≤n) (h2:n < 9223372036854775808):IntKind.i64.wrap n=n:=by
 rw [IntKind.wrap_i64];omega
theorem bS (n:Int) (h1:0≤n) (h2:n < 18446744073709551616):IntKind.u64.wrap n=n:=by
 simp only [IntKind.wrap,IntKind.bits,IntKind.signed];simp;omega
theorem iu (n:Int) (h1:0≤n) (h2:n < 256):IntKind.u8.wrap n=n:=by
 simp only [IntKind.wrap,IntKind.bits,IntKind.signed];simp;omega
end
section
def Ab (T:bD):List (Nat×TypeId)→Nat→Nat→Bool
 | [],b,sz=>a₂ b sz
 | (o,t) :: fs,b,sz=>a₂ o b && match bD.find T t with | some d=>Ab T fs (b + d.size) sz | none=>false
def vz (P:Program) (T:bD):Nat→TypeId→Bool
 | 0,_=>false
 | f + 1,t=>match bD.find T t with
  | some (.int _)=>true
  | some .bool=>true
  | some .str=>true
  | some (.arr _ e es)=>f₃ 0 es && vz P T f e
  | some (.struct fs sz)=> !P.stoodInHeld t && (P.fieldsOf t).toList.all (fun x=> !(x.name == "_")) && Ab T fs 0 sz && fs.all (fun x=>vz P T f x.2)
  | _=>false
def kK (T:bD):Nat→TypeId→List Value→Prop
 | 0,_,_=>False
 | f + 1,t,cs=>match bD.find T t with
  | some (.int k)=> ∃n,cs= [.int k n]
  | some .bool=> ∃b,cs= [.bool b]
  | some .str=> ∃s,cs= [.string s]
  | some (.arr n e es)=>cs.length=n * es∧∀i,i < n→kK T f e ((cs.drop (i * es)).take es)
  | some (.struct fs sz)=>cs.length=sz∧fs.foldr (fun x K=>(match bD.find T x.2 with | some d=>kK T f x.2 ((cs.drop x.1).take d.size) | none=>False)∧K) True
  | _=>False
def yI (T:bD) (t:TypeId) (cs:List Value):Value:=match bD.find T t with
 | some d=>match d.agg with | true=> .agg ⟨cs⟩ | false=>cs.headD undef
 | none=>undef
section
variable {P:Program} {T:bD}
theorem je (hT:cZ P T) {t:TypeId} {d:TD} (hd:bD.find T t=some d) {xs:List Value} {off:Nat} (hl:((xs.drop off).take d.size).length=d.size) (lT:d.agg=false→d.size=1) (w:World) :
  (part t ⟨xs⟩ off).run P w= .ok (yI T t ((xs.drop off).take d.size)) w:=by
 have VJ:=TD.fits_size (hT.fits hd)
 unfold yI
 rw [hd]
 cases ha:d.agg with
 | true=>
  simp only [part,Sem.run_bind,TD.fits_agg (hT.fits hd),ha,Result.andThen_ok,if_true,bG VJ,Sem.run_pure]
  simp [g₈]
 | false=>
  rw [lT ha] at hl ⊢
  simp only [part,Sem.run_bind,TD.fits_agg (hT.fits hd),ha,Result.andThen_ok,c₃,if_false]
  have h1:off < xs.length:=by
   rw [a₇,c₂] at hl
   omega
  have e:(List.take 1 (List.drop off xs))= [xs[off]] :=by rw [f₁ h1];rfl
  rw [e]
  simp [h1]
theorem TD.size_one {d:TD} (h:d.agg=false):d.size=1:=by cases d <;> first | rfl | (simp [TD.agg] at h)
theorem BN {f:Nat} {t:TypeId} {d:TD} {cs:List Value} (hd:bD.find T t=some d) (h:kK T f t cs):cs.length=d.size:=by
 cases f with
 | zero=>exact h.elim
 | succ f=>
  unfold kK at h;rw [hd] at h;cases d with
  | int k=>obtain ⟨n,rfl⟩:=h;rfl
  | bool=>obtain ⟨n,rfl⟩:=h;rfl
  | str=>obtain ⟨n,rfl⟩:=h;rfl
  | arr n e es=>exact h.1
  | struct fs sz=>exact h.1
  | ptr=>exact h.elim
  | slice=>exact h.elim
  | fn=>exact h.elim
  | other=>exact h.elim
  | iface=>exact h.elim
theorem Gx {xs ys:List Value} {sz:Nat} (hx:xs.length=sz) (hy:ys.length=sz): ∀{fs:List (Nat×TypeId)} {b:Nat},Ab T fs b sz=true→xs.take b=ys.take b→
  (∀x∈fs,∀d,bD.find T x.2=some d→(xs.drop x.1).take d.size=(ys.drop x.1).take d.size)→xs=ys
 | [],b,h,h1,_=>by
  have:=a₀ h
  subst this
  rw [e₄ om,e₄ om] at h1
  exact h1
 | (o,t) :: fs,b,h,h1,h2=>by
  simp only [Ab,a₁] at h
  obtain⟨ho,h⟩:=h
  have:=a₀ ho
  subst this
  split at h
  ·rename_i d hd
   refine Gx hx hy h ?_ (fun x hx=>h2 x (d₄ _ hx))
   rw [List.take_add,List.take_add,h1,h2 _ e₁ d hd]
  ·cases h
theorem OR {xs ys:List Value} {n es:Nat} (ej:0 < es) (hx:xs.length=n * es) (hy:ys.length=n * es) (h: ∀i,i < n→(xs.drop (i * es)).take es=(ys.drop (i * es)).take es):xs=ys:=by
 refine d₂ fun j=>?_
 by_cases hj:j < n * es
 ·have hi:j / es < n:=(Nat.div_lt_iff_lt_mul ej).2 hj;have h1:=congrArg (fun l=>l[j % es]?) (h _ hi);simp only [c₄,c₅,if_pos (Nat.mod_lt j ej)] at h1;have e:j / es * es + j % es=j:=by rw [Nat.mul_comm];exact Nat.div_add_mod j es
  rw [e] at h1;exact h1
 ·rw [e₆ om,e₆ om]
def Gy (P:Program) (T:bD) (D:Nat) (t:TypeId) (xs ys:List Value):Prop:= ∃b:Bool,(∀w,(Op.equalIn D t (yI T t xs) (yI T t ys)).run P w= .ok b w)∧(b=true↔xs=ys)
theorem BO (hT:cZ P T) {D:Nat} {e:TypeId} {d:TD} (hd:bD.find T e=some d) {xs ys:List Value} :
  ∀{is:List Nat},(∀i∈is,((xs.drop (i * d.size)).take d.size).length=d.size∧((ys.drop (i * d.size)).take d.size).length=d.size∧Gy P T D e ((xs.drop (i * d.size)).take d.size) ((ys.drop (i * d.size)).take d.size))→
   ∃b:Bool,(∀w,(Op.eqItems D e d.size ⟨xs⟩ ⟨ys⟩ is).run P w= .ok b w)∧(b=true↔ ∀i∈is,(xs.drop (i * d.size)).take d.size=(ys.drop (i * d.size)).take d.size)
 | [],_=>⟨true,fun w=>by simp [Op.eqItems],sm⟩
 | i :: is,h=>by
  obtain⟨hx,hy,b,hr,hb⟩:=h i e₁
  obtain⟨b',EA,px⟩:=BO hT hd (is:=is) (fun j hj=>h j (d₄ _ hj))
  cases b with
  | false=>
   refine⟨false,fun w=>?_,?_⟩
   ·simp only [Op.eqItems,Sem.run_bind,je hT hd hx TD.size_one,je hT hd hy TD.size_one,hr,Result.andThen_ok]
    simp
   ·simp only [d₆,forall_eq_or_imp,c₃,false_iff,not_and]
    intro e
    exact absurd (hb.2 e) sm
  | true=>
   refine⟨b',fun w=>?_,?_⟩
   ·simp only [Op.eqItems,Sem.run_bind,je hT hd hx TD.size_one,je hT hd hy TD.size_one,hr,Result.andThen_ok]
    simpa using EA w
   ·simp only [d₆,forall_eq_or_imp]
    rw [px]
    exact⟨fun h=>⟨hb.1 rfl,h⟩,fun h=>h.2⟩
theorem yJ (hT:cZ P T) {D:Nat} {xs ys:List Value} :
  ∀{fs:List Field},(∀f∈fs,(f.name == "_")=false∧∃d,bD.find T f.type=some d∧((xs.drop f.offset).take d.size).length=d.size∧((ys.drop f.offset).take d.size).length=d.size∧Gy P T D f.type ((xs.drop f.offset).take d.size) ((ys.drop f.offset).take d.size))→
   ∃b:Bool,(∀w,(Op.eqFields D ⟨xs⟩ ⟨ys⟩ fs).run P w= .ok b w)∧(b=true↔ ∀f∈fs,∀d,bD.find T f.type=some d→(xs.drop f.offset).take d.size=(ys.drop f.offset).take d.size)
 | [],_=>⟨true,fun w=>by simp [Op.eqFields],sm⟩
 | f :: fs,h=>by
  obtain⟨hn,d,hd,hx,hy,b,hr,hb⟩:=h f e₁
  obtain⟨b',EA,px⟩:=yJ hT (fs:=fs) (fun j hj=>h j (d₄ _ hj))
  have hn':f.name≠ "_" :=by simpa using hn
  cases b with
  | false=>
   refine⟨false,fun w=>?_,?_⟩
   ·simp only [Op.eqFields,if_pos hn',Sem.run_bind,je hT hd hx TD.size_one,je hT hd hy TD.size_one,hr,Result.andThen_ok]
    simp
   ·simp only [d₆,forall_eq_or_imp,c₃,false_iff,not_and]
    intro e
    exact absurd (hb.2 (e d hd)) sm
  | true=>
   refine⟨b',fun w=>?_,?_⟩
   ·simp only [Op.eqFields,if_pos hn',Sem.run_bind,je hT hd hx TD.size_one,je hT hd hy TD.size_one,hr,Result.andThen_ok]
    simpa using EA w
   ·simp only [d₆,forall_eq_or_imp]
    rw [px]
    refine⟨fun h=>⟨fun d' BH=>?_,h⟩,fun h=>h.2⟩
    rw [hd] at BH
    injection BH with BH
    subst BH
    exact hb.1 rfl
theorem sR {T:bD} {f:Nat} {cs:List Value}: ∀{fs:List (Nat×TypeId)},fs.foldr (fun x K=>(match bD.find T x.2 with | some d=>kK T f x.2 ((cs.drop x.1).take d.size) | none=>False)∧K) True→∀x∈fs,∃d,bD.find T x.2=some d∧kK T f x.2 ((cs.drop x.1).take d.size)
 | [],_,x,hx=>by cases hx
 | y :: fs,h,x,hx=>by
  simp only [f₈] at h
  rcases d₆.1 hx with rfl | hx
  ·have h1:=h.1
   split at h1
   ·rename_i d hd;exact⟨d,hd,h1⟩
   ·exact h1.elim
  ·exact sR h.2 x hx
theorem Ac (hT:cZ P T) {e:TypeId} {d:TD} {es:Nat} (hd:bD.find T e=some d) (hs:gF P e es=true):d.size=es:=by
 have VJ:=TD.fits_size (hT.fits hd);unfold gF at hs VJ;split at hs
 ·rename_i i gS;rw [gS] at VJ;simp at hs VJ;omega
 ·cases hs
theorem Ad (hT:cZ P T): ∀(f:Nat) {t:TypeId},vz P T f t=true→∀{D:Nat},f≤D→∀{xs ys:List Value},kK T f t xs→kK T f t ys→Gy P T D t xs ys
 | 0,_,h,_,_,_,_,_,_=>by cases h
 | f + 1,t,h,D,hD,xs,ys,hx,hy=>by
  obtain⟨D,rfl⟩: ∃D',D=D' + 1:=⟨D - 1,om⟩
  unfold vz at h
  unfold Gy
  have U2:=hx
  have Ze:=hy
  unfold kK at hx hy
  unfold yI
  split at h
  ·rename_i k hd
   rw [hd] at hx hy ⊢
   obtain⟨a,rfl⟩:=hx
   obtain⟨b,rfl⟩:=hy
   exact⟨a == b,fun w=>run_equalIn_int w D t k k a b (TD.fits_int (hT.fits hd)),sm⟩
  ·rename_i hd
   rw [hd] at hx hy ⊢
   obtain⟨a,rfl⟩:=hx
   obtain⟨b,rfl⟩:=hy
   exact⟨a == b,fun w=>run_equalIn_bool' w D t a b (TD.fits_bool (hT.fits hd)),sm⟩
  ·rename_i hd
   rw [hd] at hx hy ⊢
   obtain⟨a,rfl⟩:=hx
   obtain⟨b,rfl⟩:=hy
   refine⟨a.toList == b.toList,fun w=>run_equalIn_string w D t a b (TD.fits_str (hT.fits hd)),?_⟩
   rw [ByteArray.toList_eq,ByteArray.toList_eq]
   obtain⟨⟨x⟩⟩:=a
   obtain⟨⟨y⟩⟩:=b
   simp
  ·rename_i n e es hd
   simp only [a₁] at h
   obtain⟨lT,hf⟩:=h
   have lT:0 < es:=by simpa [g₁] using lT
   rw [hd] at hx hy ⊢
   obtain⟨lx,cx⟩:=hx
   obtain⟨ly,cy⟩:=hy
   obtain⟨hu,hs⟩:=TD.fits_arr (hT.fits hd)
   obtain⟨i,hi⟩: ∃i,P.info? e=some i:=by
    unfold gF at hs
    split at hs
    ·rename_i i hi;exact⟨i,hi⟩
    ·cases hs
   cases Ex:bD.find T e with
   | none=>
    cases f with
    | zero=>cases hf
    | succ f=>unfold vz at hf;rw [Ex] at hf;cases hf
   | some d=>
    have ej:=Ac hT Ex hs
    subst ej
    have hc:P.cellsOf e=d.size:=by
     have:=TD.fits_size (hT.fits Ex)
     unfold gF at this
     rw [hi] at this
     simp at this
     simp [Program.cellsOf,hi,this]
    have Of: ∀(zs:List Value),zs.length=n * d.size→∀i,i < n→((zs.drop (i * d.size)).take d.size).length=d.size:=by
     intro zs hz i hi
     rw [a₇,c₂,hz]
     have:(i + 1) * d.size≤n * d.size:=c₈ _ hi
     rw [f₄] at this
     omega
    obtain⟨b,hr,hb⟩:=BO hT Ex (D:=D) (xs:=xs) (ys:=ys) (is:=List.range n) (fun i hi=>by
     have hi:=h₈.1 hi
     exact⟨Of xs lx i hi,Of ys ly i hi,Ad hT f hf om (cx i hi) (cy i hi)⟩)
    refine⟨b,fun w=>?_,?_⟩
    ·have:=run_equalIn_array (P:=P) w D (t:=t) (e:=e) (n:=n) (i:=i) ⟨xs⟩ ⟨ys⟩ hu hi
     rw [hc] at this
     exact this.trans (hr w)
    ·rw [hb]
     constructor
     ·intro h
      exact OR lT lx ly fun i hi=>h i (h₈.2 hi)
     ·rintro rfl i _;rfl
  ·rename_i fs sz hd
   simp only [a₁,h₂] at h
   obtain⟨⟨⟨vk,oH⟩,hsg⟩,xN⟩:=h
   rw [hd] at hx hy ⊢
   obtain⟨lx,cx⟩:=hx
   obtain⟨ly,cy⟩:=hy
   obtain⟨fields,hu,Y5,_,_⟩:=TD.fits_struct (hT.fits hd)
   have Bx:P.fieldsOf t=fields:=by simp [Program.fieldsOf,hu]
   have SX:P.underlying t=some (.struct (P.fieldsOf t)):=by rw [Bx];exact hu
   have mem: ∀g∈fields.toList,(g.offset,g.type)∈fs:=by
    intro g hg
    rw [← Y5]
    exact f₆.2 ⟨g,hg,rfl⟩
   obtain⟨b,hr,hb⟩:=yJ hT (D:=D) (xs:=xs) (ys:=ys) (fs:=(P.fieldsOf t).toList) (fun g hg=>by
    refine⟨by simpa using b₇.1 oH g hg,?_⟩
    rw [Bx] at hg
    have hm:=mem g hg
    obtain⟨d,Y9,hcx⟩:=sR cx _ hm
    obtain⟨d',XV,hcy⟩:=sR cy _ hm
    rw [Y9] at XV
    injection XV with e
    subst e
    exact⟨d,Y9,BN Y9 hcx,BN Y9 hcy,Ad hT f (b₇.1 xN _ hm) om hcx hcy⟩)
   refine⟨b,fun w=>?_,?_⟩
   ·exact(run_equalIn_agg w D t ⟨xs⟩ ⟨ys⟩ SX vk).trans (hr w)
   ·rw [hb]
    constructor
    ·intro h
     refine Gx lx ly hsg sm fun x hx d UT=>?_
     rw [← Y5] at hx
     obtain⟨g,hg,rfl⟩:=f₆.1 hx
     rw [← Bx] at hg
     exact h g hg d UT
    ·rintro rfl f _ d _;rfl
  ·cases h
theorem BP (hT:cZ P T) {t:TypeId} {d:TD} (hd:bD.find T t=some d) (ha:d.agg=true) (hf:vz P T 9 t=true) (hg:P.eqGuardType P.depth t=false) (x y:Operand) {xs ys:List Value} (hx:kK T 9 t xs) (hy:kK T 9 t ys) :
  ∃b:Bool,(∀w,(do eqGuard .eql t x y (.agg ⟨xs⟩) (.agg ⟨ys⟩);binOp .eql t (.agg ⟨xs⟩) (.agg ⟨ys⟩):Sem Value).run P w= .ok (.bool b) w)∧
   (∀w,(do eqGuard .neq t x y (.agg ⟨xs⟩) (.agg ⟨ys⟩);binOp .neq t (.agg ⟨xs⟩) (.agg ⟨ys⟩):Sem Value).run P w= .ok (.bool (!b)) w)∧(b=true↔xs=ys):=by
 obtain⟨b,hr,hb⟩:=Ad hT 9 hf (D:=10000) (by decide) hx hy
 unfold yI at hr
 rw [hd] at hr
 simp only [ha] at hr
 refine⟨b,fun w=>?_,fun w=>?_,hb⟩
 ·rw [Sem.run_bind,run_eqGuard_agg w .eql t x y _ _ hg,Result.andThen_ok,run_eql_struct,hr];rfl
 ·rw [Sem.run_bind,run_eqGuard_agg w .neq t x y _ _ hg,Result.andThen_ok,run_neq_struct,hr];rfl
end
end
section
def bz (A:Type):Type:=(A→Prop)→Prop
def bz.ret {A:Type} (a:A):bz A:=fun K=>K a
def bz.bad {A:Type}:bz A:=fun _=>False
def bz.ask {A α:Type} (o:Option α) (k:α→bz A):bz A:=fun K=> ∃a,o=some a∧k a K
def bz.prf {A:Type} (p:Prop) (_:Decidable p) (k:bz A):bz A:=fun K=>p∧k K
def bz.br {A:Type} (t:Bool) (x y:bz A):bz A:=fun K=>(t=true→x K)∧(t=false→y K)
def bz.bind {A B:Type} (x:bz A) (f:A→bz B):bz B:=fun K=>x fun a=>f a K
def bz.runP {A:Type} (x:bz A) (K:A→Prop):Prop:=x K
theorem bz.bind_runP {A B:Type} {f:A→bz B} {K:B→Prop} {x:bz A}:(x.bind f).runP K↔x.runP fun a=>(f a).runP K:=Iff.rfl
abbrev VE:=List (Nat×MV)
abbrev VM:=List (Nat×MB)
def VE.get:VE→Nat→Option MV
 | [],_=>none
 | (j,v) :: E,i=>bif a₂ j i then some v else VE.get E i
def VM.get:VM→Nat→Option MB
 | [],_=>none
 | (j,v) :: E,i=>bif a₂ j i then some v else VM.get E i
def VM.del:VM→Nat→VM
 | [],_=> []
 | (j,v) :: M,i=>bif a₂ j i then VM.del M i else(j,v) :: VM.del M i
def VM.upd:VM→Nat→List MV→VM
 | [],_,_=> []
 | (j,v) :: M,i,l=>bif a₂ j i then(j,{ v with l:=l }) :: VM.upd M i l else(j,v) :: VM.upd M i l
def VM.bump1:VM→Nat→Nat→VM
 | [],_,_=> []
 | (j,v) :: M,i,n=>bif a₂ j i then(j,{ v with pe:=Nat.max v.pe n }) :: VM.bump1 M i n else(j,v) :: VM.bump1 M i n
def VM.bump:VM→List (Nat×Nat)→VM
 | M,[] =>M
 | M,(c,n) :: l=>VM.bump (VM.bump1 M c n) l
inductive Dl where
 | none
 | new (b:MB)
 | upd (c:Nat) (l:List MV)
 | mv (c:Nat) (b:MB)
 | bump (l:List (Nat×Nat))
def dH:FM→List (Nat×Nat)→FM
 | m,[] =>m
 | m,(c,n) :: l=>dH (match m c with | some b=>aR m c { b with pe:=Nat.max b.pe n } | none=>m) l
def Dl.appF (cnt:Nat):Dl→FM→FM
 | .none,m=>m
 | .new b,m=>aR m cnt b
 | .upd c l,m=>match m c with | some b=>aR m c { b with l:=l } | Option.none=>m
 | .mv c b,m=>aR (jJ m c) cnt b
 | .bump l,m=>dH m l
def Dl.app (cnt:Nat):Dl→VM→VM
 | .none,M=>M
 | .new b,M=>(cnt,b) :: M
 | .upd c l,M=>VM.upd M c l
 | .mv c b,M=>(cnt,b) :: VM.del M c
 | .bump l,M=>VM.bump M l
def EE:Value→Option MV
 | .int k n=>some (.int k n)
 | .bool b=>some (.bool b)
 | .string s=>some (.str s.data.toList)
 | .pointer none=>some .nilp
 | .slice none 0 0=>some .nils
 | .nilFunc=>some .nilf
 | .nilIface=>some .nili
 | .func (.func f) ⟨[]⟩ ⟨[]⟩=>some (.fn f [])
 | _=>none
def jL (E:Nat→Option MV):Operand→Option MV
 | .tmp t=>E t
 | .const v=>EE v
 | .global g=>some (.gp g 0)
 | .func f=>some (.fn f [])
def rd {A:Type} (E:Nat→Option MV) (x:Operand) (k:MV→bz A):bz A:=match jL E x with | some m=>k m | none=> .bad
def oM {A:Type} (E:Nat→Option MV):List Operand→(List MV→bz A)→bz A
 | [],k=>k []
 | x :: l,k=>rd E x fun m=>oM E l fun r=>k (m :: r)
def OS {A:Type} (E:Nat→Option MV):Option Operand→(Option MV→bz A)→bz A
 | none,k=>k none
 | some x,k=>rd E x fun m=>k (some m)
def repM:Nat→MV→List MV
 | 0,_=> []
 | n + 1,z=>z :: repM n z
def jf (T:bD):Nat→Nat→Option MV
 | 0,_=>none
 | f + 1,t=>match bD.find T t with
  | some (.int k)=>some (.int k 0)
  | some .bool=>some (.bool false)
  | some .str=>some (.str [])
  | some .ptr=>some .nilp
  | some .iface=>some .nili
  | some .fn=>some .nilf
  | some (.slice ..)=>some .nils
  | some (.arr n e es)=>match jf T f e with
   | some z=>bif z.idFree && a₂ z.size es then some (.arr n es (repM n z)) else none
   | none=>none
  | some (.struct fs _)=>match fs.foldr (fun x r=>match r,jf T f x.2 with | some r,some z=>some (z :: r) | _,_=>none) (some []) with
   | some l=>some (.st l)
   | none=>none
  | _=>none
def OT:Bool→Bool→Bool
 | true,true=>true
 | false,false=>true
 | _,_=>false
def MV.isVal:MV→Bool
 | .tup _=>false
 | .mpv .. =>false
 | .undef=>false
 | _=>true
def fits (d:TD) (v:MV):Bool:=(v.isVal && a₂ v.size d.size) && OT v.isAgg d.agg
def val {A α:Type} (x:α) (k:α→bz A):bz A:= .ask (some x) k
def Ky (op:BinOp) (k:IntKind) (m n:Int):bz MV:=match op with
 | .add=>val (k.wrap (m + n)) fun r=> .ret (.int k r)
 | .sub=>val (k.wrap (m - n)) fun r=> .ret (.int k r)
 | .mul=>val (k.wrap (m * n)) fun r=> .ret (.int k r)
 | .quo=> .prf (n≠0) inferInstance (val (k.wrap (m.tdiv n)) fun r=> .ret (.int k r))
 | .rem=> .prf (n≠0) inferInstance (val (m.tmod n) fun r=> .ret (.int k r))
 | .eql=> .ret (.bool (m == n))
 | .neq=> .ret (.bool (m !=n))
 | .lss=> .ret (.bool (decide (m < n)))
 | .leq=> .ret (.bool (decide (m≤n)))
 | .gtr=> .ret (.bool (decide (n < m)))
 | .geq=> .ret (.bool (decide (n≤m)))
 | .shl=> .prf (0≤n) inferInstance (val (k.wrap (m * 2 ^ (min n.toNat k.bits))) fun r=> .ret (.int k r))
 | .shr=> .prf (0≤n) inferInstance (val (m.fdiv (2 ^ (min n.toNat k.bits))) fun r=> .ret (.int k r))
 | .and=>val (k.wrap (BitVec.ofInt k.bits m &&& BitVec.ofInt k.bits n).toNat) fun r=> .ret (.int k r)
 | .or=>val (k.wrap (BitVec.ofInt k.bits m ||| BitVec.ofInt k.bits n).toNat) fun r=> .ret (.int k r)
 | .xor=>val (k.wrap (BitVec.ofInt k.bits m ^^^ BitVec.ofInt k.bits n).toNat) fun r=> .ret (.int k r)
 | .andNot=>val (k.wrap (BitVec.ofInt k.bits m &&& ~~~BitVec.ofInt k.bits n).toNat) fun r=> .ret (.int k r)
def OU (op:BinOp) (s t:List UInt8):bz MV:=match op with
 | .add=> .prf (s.length + t.length≤9223372036854775807) inferInstance (val (s ++ t) fun r=> .ret (.str r))
 | .eql=> .ret (.bool (s == t))
 | .neq=> .ret (.bool (!(s == t)))
 | .lss=> .ret (.bool (Op.bytesLess s t))
 | .leq=> .ret (.bool (Op.bytesLess s t || s == t))
 | .gtr=> .ret (.bool (!(Op.bytesLess s t || s == t)))
 | .geq=> .ret (.bool (!Op.bytesLess s t))
 | _=> .bad
def Kz (op:BinOp) (s t:Bool):bz MV:=match op with
 | .eql=> .ret (.bool (s == t))
 | .neq=> .ret (.bool (s !=t))
 | _=> .bad
mutual
def EF:MV→MV→Option Bool
 | .int k a, .int j b=>match decide (k=j) with | true=>some (decide (a=b)) | false=>none
 | .bool a, .bool b=>some (a == b)
 | .str a, .str b=>some (a == b)
 | .st l, .st r=>sS l r
 | .arr n es l, .arr n' gr r=>bif a₂ n n' && a₂ es gr then sS l r else none
 | _,_=>none
def sS:List MV→List MV→Option Bool
 | [],[] =>some true
 | a :: l,b :: r=>match EF a b,sS l r with
  | some x,some y=>some (x && y)
  | _,_=>none
 | _,_=>none
end
mutual
def eO (T:bD):Nat→Nat→MV→Bool
 | 0,_,_=>false
 | f + 1,t,m=>match bD.find T t,m with
  | some (.int k), .int j _=>a₂ (Ih j) (Ih k)
  | some .bool, .bool _=>true
  | some .str, .str _=>true
  | some (.arr n e es), .arr n' gr l=>a₂ n n' && a₂ es gr && l.all (eO T f e)
  | some (.struct fs sz), .st l=>confMs T f fs 0 l sz
  | _,_=>false
def confMs (T:bD):Nat→List (Nat×TypeId)→Nat→List MV→Nat→Bool
 | _,[],o,[],sz=>a₂ o sz
 | f,(o',t) :: fs,o,m :: l,sz=>a₂ o o' && (match bD.find T t with | some d=>a₂ m.size d.size && eO T f t m && confMs T f fs (o + d.size) l sz | none=>false)
 | _,_,_,_,_=>false
end
def vA:Nat→MV→Option Bool
 | 0, .nilp=>some true
 | 0, .ptr .. =>some false
 | 0, .gp .. =>some false
 | 0, .ep .. =>some false
 | 1, .nils=>some true
 | 1, .sl (_ + 1) _=>some false
 | 2, .nili=>some true
 | 2, .ifc .. =>some false
 | _,_=>none
def EG (n:Nat) (j:Int):Option Nat:=if 0≤j∧j < (n:Int) then some j.toNat else none
def bI (l:List MV) (n:Nat) (j:Int):Option MV:=if 0≤j∧j < (n:Int) then l[j.toNat]? else none
def BQ (s:List UInt8) (j:Int):Option UInt8:=if 0≤j then s[j.toNat]? else none
def dN (n:Nat) (lo hi:Option MV):Option (Nat×Nat):=
 match (match hi with | none=>some n | some (.int _ h)=>if 0≤h∧h≤(n:Int) then some h.toNat else none | _=>none) with
 | none=>none
 | some h=>match (match lo with | none=>some 0 | some (.int _ l)=>if 0≤l∧l≤(h:Int) then some l.toNat else none | _=>none) with
  | none=>none
  | some l=>some (l,h)
def lY:List MV→Option (List UInt8)
 | [] =>some []
 | .int .u8 n :: l=>if 0≤n∧n < 256 then(match lY l with | some r=>some (UInt8.ofNat n.toNat :: r) | none=>none) else none
 | _ :: _=>none
def bg:List MV→Nat→Bool
 | [],_=>true
 | m :: _,es=>a₂ m.size es
def cutL (l:List MV) (a b:Nat):List MV:=(l.drop a).take (b - a)
def u8s (s:List UInt8):List MV:=s.map fun b=> .int .u8 b.toNat
section
variable (P:Program) (T:bD) (E:Nat→Option MV) (M:FM) (cnt:Nat)
mutual
def dO:MV→bz (MV×List (Nat×Nat))
 | .ms c es off n=>match M c with
  | some b=>match b.row && a₂ b.es es with
   | true=> .prf (off + n≤b.l.length) inferInstance (val (cutL b.l off (off + n)) fun l=> .ret (.sl n l,[(c,off + n)]))
   | false=> .bad
  | none=> .bad
 | .nils=> .ret (.sl 0 [],[])
 | .st l=>(gN l).bind fun r=> .ret (.st r.1,r.2)
 | .fn f l=>(gN l).bind fun r=> .ret (.fn f r.1,r.2)
 | .ifc t v=>(dO v).bind fun r=> .ret (.ifc t r.1,r.2)
 | .ptr c es k fo path=>match M c with
  | some b=>bif a₂ b.es es then .ask (cE b.l k) fun v=>(bif v.idFree then .ret (.ep v fo path,[(c,k + 1)]) else .bad) else .bad
  | none=> .bad
 | .tup _=> .bad
 | .undef=> .bad
 | .mp _=> .bad
 | .mpv .. => .bad
 | m=> .ret (m,[])
def gN:List MV→bz (List MV×List (Nat×Nat))
 | [] => .ret ([],[])
 | m :: l=>(dO m).bind fun x=>(gN l).bind fun r=> .ret (x.1 :: r.1,x.2 ++ r.2)
end
def pureA (m:MV):bz (MV×Dl):= .ret (m, .none)
def iv (t:TypeId) (p:MV):bz (MV×Dl):=match bD.find T t with
 | none=> .bad
 | some d=>match p with
  | .ptr c es k fo path=>match M c with
   | some b=>bif a₂ b.es es then .ask (cE b.l k) fun m=> .ask (fj m path fo) fun r=>(bif fits d r then pureA r else .bad) else .bad
   | none=> .bad
  | .ep v fo path=> .ask (fj v path fo) fun r=>bif fits d r then pureA r else .bad
  | _=> .bad
def gK (t:TypeId) (p v:MV):bz (MV×Dl):=match bD.find T t with
 | none=> .bad
 | some d=>match p with
  | .ptr c es k fo path=>match M c with
   | some b=>bif a₂ b.es es && fits d v && (!b.row || v.idFree) then .prf (b.pe≤k) inferInstance (.ask (cE b.l k) fun m=> .ask (fk m path fo v) fun m'=>val (setL b.l k m') fun l=> .ret (.undef, .upd c l)) else .bad
   | none=> .bad
  | _=> .bad
def gX (t:TypeId) (p:MV) (f:Nat):bz (MV×Dl):=match bD.find T t with
 | some (.struct fs _)=>match ON fs f with
  | some (o,_)=>match p with
   | .ptr c es k fo path=>pureA (.ptr c es k (fo + o) (path ++ [f]))
   | .ep v fo path=>pureA (.ep v (fo + o) (path ++ [f]))
   | .gp g off=>pureA (.gp g (off + o))
   | _=> .bad
  | none=> .bad
 | _=> .bad
def gY (t:TypeId) (x j:MV):bz (MV×Dl):=match bD.find T t with
 | some (.slice _ es)=>match x,j with
  | .sl n l, .int _ j=> .ask (bI l n j) fun m=>bif a₂ m.size es then pureA (.ep m 0 []) else .bad
  | .ms c gr off n, .int _ j=>bif a₂ gr es then .ask (EG n j) fun k=>pureA (.ptr c es (off + k) 0 []) else .bad
  | _,_=> .bad
 | some (.arr n _ es)=>match x,j with
  | .ptr c gr k fo path, .int _ j=> .ask (EG n j) fun i=>pureA (.ptr c gr k (fo + i * es) (path ++ [i]))
  | .ep v fo path, .int _ j=> .ask (EG n j) fun i=>pureA (.ep v (fo + i * es) (path ++ [i]))
  | .gp g off, .int _ j=> .ask (EG n j) fun i=>pureA (.gp g (off + i * es))
  | _,_=> .bad
 | _=> .bad
def pZ (t:TypeId) (x j:MV):bz (MV×Dl):=match bD.find T t,x,j with
 | some .str, .str s, .int _ j=> .ask (BQ s j) fun c=>pureA (.int .u8 c.toNat)
 | some (.arr n e es), .arr n' gr l, .int _ j=>match bD.find T e with
  | some d=>bif a₂ n n' && a₂ es gr then .ask (bI l n j) fun m=>(bif fits d m then pureA m else .bad) else .bad
  | none=> .bad
 | _,_,_=> .bad
def p8 (t:TypeId) (x:MV) (f:Nat):bz (MV×Dl):=match bD.find T t,x with
 | some (.struct fs _), .st l=>match ON fs f,cE l f with
  | some (o,ft),some m=>match bD.find T ft with
   | some d=>bif fits d m && a₂ (fV l f) o then pureA m else .bad
   | none=> .bad
  | _,_=> .bad
 | _,_=> .bad
def p9 (t:TypeId) (x:MV) (lo hi:Option MV):bz (MV×Dl):=match bD.find T t,x with
 | some .str, .str s=> .ask (dN s.length lo hi) fun r=>val ((s.drop r.1).take (r.2 - r.1)) fun u=>pureA (.str u)
 | some (.slice _ es), .sl n l=> .ask (dN n lo hi) fun r=> .prf (bg l es=true) inferInstance (val (cutL l r.1 r.2) fun u=>val (r.2 - r.1) fun k=>pureA (.sl k u))
 | some (.slice _ es), .ms c gr off n=>bif a₂ es gr then .ask (dN n lo hi) fun r=>(val (r.2 - r.1) fun k=>pureA (.ms c es (off + r.1) k)) else .bad
 | some (.slice _ _), .nils=> .ask (dN 0 lo hi) fun _=>pureA .nils
 | _,_=> .bad
def fW (t:TypeId) (x:MV) (lo hi:Option MV):bz (MV×Dl):=match bD.find T t,x with
 | some (.arr n _ es), .ptr c _ k fo path=>match M c with
  | some b=>match b.l with
   | [.arr n' gr l] =>bif a₂ k 0 && a₂ fo 0 && path.isEmpty && a₂ n n' && a₂ es gr then .ask (dN n lo hi) fun r=>val (cutL l r.1 r.2) fun u=>val (r.2 - r.1) fun j=> .ret (.sl j u, .bump [(c,1)]) else .bad
   | _=> .bad
  | none=> .bad
 | _,_=>p9 T t x lo hi
def gg (l:List MV):List (Nat×MV)→Option (List MV)
 | [] =>some l
 | (i,v) :: r=>match cE l i with
  | some m=>bif a₂ v.size m.size && OT v.isAgg m.isAgg then gg (setL l i v) r else none
  | none=>none
def np:List MV→List Nat→Bool
 | [],[] =>true
 | m :: l,n :: ns=>a₂ m.size n && np l ns
 | _,_=>false
def qa (t:TypeId) (parts:List (Nat×MV)):bz (MV×Dl):=match jf T 9 t,z1 T t with
 | some (.st l),some ns=>bif np l ns && parts.all (fun p=>p.2.isVal) then(match gg l parts with
  | some l'=>pureA (.st l')
  | none=> .bad) else .bad
 | some (.arr n es l),some ns=>bif np l ns && parts.all (fun p=>p.2.isVal && p.2.idFree) then(match gg l parts with
  | some l'=>pureA (.arr n es l')
  | none=> .bad) else .bad
 | _,_=> .bad
def eB (t:TypeId) (n:Nat) (parts:List (Nat×MV)):bz (MV×Dl):=match bD.find T t with
 | some (.slice e es)=>match n with
  | 0=>match parts with
   | [] => .ret (.ms cnt es 0 0, .new ⟨e,es,true,0,[]⟩)
   | _=> .bad
  | n + 1=>match jf T 9 e with
   | some z=>bif a₂ z.size es && f₃ 0 es && d₃ ((n + 1) * es) 16777216 && z.idFree && parts.all (fun p=>p.2.isVal) then(match gg (repM (n + 1) z) parts with
    | some l=> .ret (.ms cnt es 0 (n + 1), .new ⟨e,es,parts.all (fun p=>p.2.idFree),0,l⟩)
    | none=> .bad) else .bad
   | none=> .bad
 | _=> .bad
def fw (t:TypeId) (c gr off k:Nat):bz (MV×Dl):=match bD.find T t with
 | some (.slice e es)=>match jf T 9 e with
  | some z=>match M c with
   | some b=>bif a₂ z.size es && a₂ es 1 && z.idFree && !z.isAgg && b.row && a₂ b.es gr then .prf (off + k≤b.l.length) inferInstance (val (cutL b.l off (off + k)) fun l=> .ret (.ms cnt es 0 1, .mv c ⟨e,es,true,0,[.sl k l]⟩)) else .bad
   | none=> .bad
  | none=> .bad
 | _=> .bad
def oN (n:Nat) (ps:List (Nat×MV)):Option (Nat×Nat×Nat×Nat):=match n with
 | 1=>(match ps with
  | [(0, .ms c es off k)] =>some (c,es,off,k)
  | _=>none)
 | _=>none
def Vr (t:TypeId):Bool:=vz P T 9 t && !P.eqGuardType P.depth t
def yd (b:Option Bool) (op:BinOp):bz (MV×Dl):=match b with
 | some b=>match op with
  | .eql=>pureA (.bool b)
  | .neq=>pureA (.bool (!b))
  | _=> .bad
 | none=> .bad
def S9 (op:BinOp) (t:TypeId) (x y:MV):bz (MV×Dl):=match bD.find T t with
 | some d=>bif d.agg && fits d x && fits d y then .prf (Vr P T t=true∧eO T 9 t x=true∧eO T 9 t y=true) inferInstance (.ask (EF x y) fun b=>yd (some b) op) else .bad
 | none=> .bad
def Ij (op:BinOp) (t:TypeId) (yo:Operand) (x y:MV):bz (MV×Dl):=match y with
 | .int k' n=>match x with
  | .int k m=>bif qE op || a₂ (Ih k) (Ih k') then(Ky op k m n).bind pureA else .bad
  | _=> .bad
 | .str u=>match x with
  | .str s=>(OU op s u).bind pureA
  | _=> .bad
 | .bool u=>match x with
  | .bool s=>match bD.find T t with | some .bool=>(Kz op s u).bind pureA | _=> .bad
  | _=> .bad
 | .nilp=>match bD.find T t with
  | some .ptr=>yd (vA 0 x) op
  | _=> .bad
 | .nils=>match bD.find T t with
  | some (.slice ..)=>yd (vA 1 x) op
  | _=> .bad
 | .nili=>match bD.find T t,yo with
  | some .iface, .const _=>yd (vA 2 x) op
  | _,_=> .bad
 | y=>S9 P T op t x y
def Ta (op:UnOp) (x:MV):bz (MV×Dl):=match op,x with
 | .not, .bool b=>pureA (.bool (!b))
 | .xor, .int k n=>val (k.wrap (BitVec.ofInt k.bits (if k.signed then -1 else k.max) ^^^ BitVec.ofInt k.bits n).toNat) fun r=>pureA (.int k r)
 | .neg, .int k n=>val (k.wrap (0 - n)) fun r=>pureA (.int k r)
 | _,_=> .bad
def nq (src dst:TypeId) (x:MV):bz (MV×Dl):=match bD.find T src,bD.find T dst,x with
 | some _,some (.int k), .int _ n=>val (k.wrap n) fun r=>pureA (.int k r)
 | some (.slice e _),some .str, .sl _n l=>match bD.find T e with
  | some (.int .u8)=> .ask (lY l) fun s=>pureA (.str s)
  | _=> .bad
 | some (.slice e _),some .str, .nils=>match bD.find T e with
  | some (.int .u8)=>pureA (.str [])
  | _=> .bad
 | some (.slice e _),some .str, .ms c es off n=>match bD.find T e,M c with
  | some (.int .u8),some b=>bif a₂ es 1 && a₂ b.es 1 then .prf (off + n≤b.l.length) inferInstance (.ask (lY (cutL b.l off (off + n))) fun s=>pureA (.str s)) else .bad
  | _,_=> .bad
 | some .str,some (.slice e _), .str s=>match bD.find T e with
  | some (.int .u8)=> .prf (s.length≤140737488355328) inferInstance (val (u8s s) fun l=>val s.length fun n=>pureA (.sl n l))
  | _=> .bad
 | _,_,_=> .bad
def gZ (t:TypeId) (n m:MV):bz (MV×Dl):=match bD.find T t,n,m with
 | some (.slice e es), .int _ n, .int _ m=>match jf T 9 e with
  | some z=>bif a₂ z.size es && f₃ 0 es && z.idFree then .prf (n=m) inferInstance (.ask (EG 140737488355328 n) fun k=> .ask ((P.info? e).map (·.bytes)) fun Eh=> .prf (k * Eh≤281474976710656) inferInstance (.ret (.ms cnt es 0 k, .new ⟨e,es,true,0,repM k z⟩))) else .bad
  | none=> .bad
 | _,_,_=> .bad
def qF (es:Nat) (y:MV) (k:Nat→List MV→bz (MV×Dl)):bz (MV×Dl):=match y with
 | .sl m l=> .prf (bg l es=true) inferInstance (k m l)
 | .nils=>k 0 []
 | .ms c gr off m=>match M c with
  | some b=>bif a₂ es gr && a₂ b.es es && b.row then .prf (off + m≤b.l.length) inferInstance (val (cutL b.l off (off + m)) fun l=>k m l) else .bad
  | none=> .bad
 | _=> .bad
def gT (er:List TypeId) (x y:MV):bz (MV×Dl):=match er with
 | [t,u] =>bif a₂ t u then(match bD.find T t with
  | some (.slice e es)=>match jf T 9 e with
   | some z=>bif a₂ z.size es && f₃ 0 es then .ask ((P.info? e).map (·.bytes)) fun Eh=>qF M es y fun m l=>(match x with
    | .nils=> .prf (m * Eh≤140737488355328∧m≤maxLen) inferInstance (.ret (.ms cnt es 0 m, .new ⟨e,es,true,0,l⟩))
    | .ms c gr off n=>match M c with
     | some b=>bif a₂ off 0 && a₂ es gr && a₂ b.es es && b.row && a₂ b.ty e then .prf (b.l.length=n∧(n + m) * Eh≤140737488355328∧n + m≤maxLen) inferInstance (val (b.l ++ l) fun r=>val (n + m) fun k=> .ret (.ms cnt es 0 k, .mv c ⟨e,es,true,b.pe,r⟩)) else .bad
     | none=> .bad
    | _=> .bad) else .bad
   | none=> .bad
  | _=> .bad) else .bad
 | _=> .bad
def KA (t:Option TypeId) (x:MV):bz (MV×Dl):=match t.bind (bD.find T),x with
 | some .str, .str s=>val (s.length:Int) fun r=>pureA (.int .i64 r)
 | some (.slice ..), .sl n _=>pureA (.int .i64 n)
 | some (.slice ..), .nils=>pureA (.int .i64 0)
 | some (.slice ..), .ms _ _ _ n=>pureA (.int .i64 n)
 | some (.arr n _ _),_=>pureA (.int .i64 n)
 | _,_=> .bad
def KC (c a b:MV):bz (MV×Dl):=match c with
 | .bool t=> .br t (pureA a) (pureA b)
 | _=> .bad
def lZ (t:TypeId):bz (MV×Dl):=match bD.find T t,jf T 9 t with
 | some d,some z=>bif fits d z then .ret (.ptr cnt d.size 0 0 [], .new ⟨t,d.size,false,0,[z]⟩) else .bad
 | _,_=> .bad
def BR (t:TypeId) (v:MV):bz (MV×Dl):=match bD.find T t with
 | some d=>bif fits d v then .ret (.ptr cnt d.size 0 0 [], .new ⟨t,d.size,false,0,[v]⟩) else .bad
 | none=> .bad
def lf (v:MV):bz (MV×Dl):=match v with
 | .ptr .. | .gp .. | .ep .. | .fn .. | .ifc .. =>pureA v
 | _=> .bad
def vB (t:TypeId) (v:MV):bz (MV×Dl):=match bD.find T t with
 | some .iface=> .bad
 | some .other=> .bad
 | some d=>bif fits d v then pureA (.ifc t v) else .bad
 | none=> .bad
def qG (fn:Fn) (first:Array Operand) (ys:List MV):bz (MV×Dl):=match fn,first.toList with
 | .func f,[] =>bif ys.all MV.isVal then pureA (.fn f ys) else .bad
 | _,_=> .bad
def nr (x:MV) (i:Nat):bz (MV×Dl):=match x with
 | .tup vs=>match cE vs i with | some m=>pureA m | none=> .bad
 | _=> .bad
def fA (b:Builtin) (er:Array TypeId) (vs:List MV):bz (MV×Dl):=match b with
 | .len=>match vs with | [x] =>KA T (er[0]?) x | _=> .bad
 | .append=>match vs with | [x,y] =>gT P T M cnt er.toList x y | _=> .bad
 | .min=>match vs with | [.int k x, .int _ y] =>val (if y < x then y else x) fun r=>pureA (.int k r) | _=> .bad
 | .max=>match vs with | [.int k x, .int _ y] =>val (if y > x then y else x) fun r=>pureA (.int k r) | _=> .bad
 | _=> .bad
def findM (s:List UInt8):List MV→Nat→Option (Option Nat)
 | [],_=>some none
 | .str x :: l,i=>bif s == x then some (some i) else findM s l (i + 1)
 | _ :: _,_=>none
def OV (t:TypeId):Option TypeId:=match P.underlying t with
 | some (.map k e)=>(match P.underlying k with | some .string=>some e | _=>none)
 | _=>none
def KD:Option Value→Bool
 | some (.agg _)=>true
 | _=>false
def uT (t:TypeId):Option MV:=match jf T 9 t with
 | some z=>bif OT z.isAgg (KD ((P.info? t).bind (·.zero))) then some z else none
 | none=>none
def BS (t:TypeId):bz (MV×Dl):= .ret (.mp cnt, .new ⟨t,0,false,0,[.mpv [] []]⟩)
def gU (t:TypeId) (m k x:MV):bz (MV×Dl):=match m,k with
 | .mp c, .str s=>match M c with
  | some b=>match b.l with
   | [.mpv ks vs] =>bif x.isVal && x.idFree then .prf (vs.length=ks.length) inferInstance (.ask (OV P t) fun _=> .ask (findM s ks 0) fun r=>(match r with
    | none=>val [.mpv (ks ++ [.str s]) (vs ++ [x])] fun l=> .ret (.undef, .upd c l)
    | some i=>val [.mpv ks (setL vs i x)] fun l=> .ret (.undef, .upd c l))) else .bad
   | _=> .bad
  | none=> .bad
 | _,_=> .bad
def Ae (ok:Bool) (v:MV) (b:Bool):MV:=match ok with
 | true=> .tup [v, .bool b]
 | false=>v
def iw (t:TypeId) (m k:MV) (ok:Bool):bz (MV×Dl):=match m,k with
 | .mp c, .str s=>match M c with
  | some b=>match b.l with
   | [.mpv ks vs] => .prf (vs.length=ks.length) inferInstance (.ask (OV P t) fun e=> .ask (findM s ks 0) fun r=>(match r with
    | none=> .ask (uT P T e) fun z=>pureA (Ae ok z false)
    | some i=> .ask (cE vs i) fun v=>bif v.isVal then pureA (Ae ok v true) else .bad))
   | _=> .bad
  | none=> .bad
 | _,_=> .bad
def BT (n:Int):Option Nat:=if 0≤n then some n.toNat else none
def vD (s:List UInt8) (pos:Nat):Option (Nat×Nat):=if pos < s.length then some (Utf8.decode ⟨s.toArray⟩ pos) else none
def qb (t:TypeId) (x:MV):bz (MV×Dl):=match bD.find T t,x with
 | some .str, .str s=> .ret (.ptr cnt 0 0 0 [], .new ⟨t,0,false,0,[.mpv [.str s] [.nilp, .int .i64 (0:Nat)]]⟩)
 | _,_=> .bad
def mT (x:MV) (isS:Bool):bz (MV×Dl):=match x,isS with
 | .ptr c 0 0 0 [],true=>match M c with
  | some b=>match b.l with
   | [.mpv [.str s] [.nilp, .int .i64 p]] => .ask (BT p) fun pos=>val (vD s pos) fun r=>(match r with
    | none=> .ret (.tup [.bool false], .upd c [.mpv [.str s] [.nilp, .int .i64 p]])
    | some (x,wd)=> .ret (.tup [.bool true, .int .i64 pos, .int .i32 x], .upd c [.mpv [.str s] [.nilp, .int .i64 (pos + wd:Nat)]]))
   | _=> .bad
  | none=> .bad
 | _,_=> .bad
def mf (t:TypeId) (ok:Bool) (v:MV):bz (MV×Dl):=match v,bD.find T t with
 | .ifc _ _,some .iface=> .bad
 | .ifc _ _,some .other=> .bad
 | .ifc t' u,some _=>match a₂ t' t with
  | true=>bif u.isVal then pureA (Ae ok u true) else .bad
  | false=>bif ok then .ask (uT P T t) fun z=>pureA (.tup [z, .bool false]) else .bad
 | _,_=> .bad
def jv (o:Oper):bz (MV×Dl):=match o.op with
 | .move x=>rd E x pureA
 | .assign x=>rd E x pureA
 | .pick c a b=>rd E c fun c=>rd E a fun a=>rd E b fun b=>KC c a b
 | .alloc t=>lZ T cnt t
 | .box t x=>rd E x fun v=>BR T cnt t v
 | .build t parts=>oM E (parts.toList.map (·.2)) fun vs=>qa T t ((parts.toList.map (·.1)).zip vs)
 | .buildSlice t n parts=>oM E (parts.toList.map (·.2)) fun vs=>match oN n ((parts.toList.map (·.1)).zip vs) with
  | some x=>fw T M cnt t x.1 x.2.1 x.2.2.1 x.2.2.2
  | none=>eB T cnt t n ((parts.toList.map (·.1)).zip vs)
 | .load t x=>rd E x fun p=>iv T M t p
 | .store t x y=>rd E x fun p=>rd E y fun v=>gK T M t p v
 | .nilCheck x=>rd E x lf
 | .binOp op t x y _=>rd E x fun u=>rd E y fun v=>Ij P T op t y u v
 | .unOp op _ x=>rd E x fun v=>Ta op v
 | .convert src dst x=>rd E x fun v=>nq T M src dst v
 | .makeInterface t x=>rd E x fun v=>vB T t v
 | .makeFunc fn first captured=>oM E captured.toList fun ys=>qG fn first ys
 | .makeSlice t l c=>rd E l fun l=>rd E c fun c=>gZ P T cnt t l c
 | .slice t x lo hi mx=>match mx with
  | none=>rd E x fun x=>OS E lo fun lo=>OS E hi fun hi=>fW T M t x lo hi
  | some _=> .bad
 | .fieldAddr t x f=>rd E x fun p=>gX T t p f
 | .field t x f=>rd E x fun v=>p8 T t v f
 | .indexAddr t x ix=>rd E x fun v=>rd E ix fun i=>gY T t v i
 | .index t x ix=>rd E x fun v=>rd E ix fun i=>pZ T t v i
 | .extract x i=>rd E x fun x=>nr x i
 | .makeMap t r=>match r with
  | none=>BS cnt t
  | some _=> .bad
 | .mapUpdate t m k x=>rd E m fun m=>rd E k fun k=>rd E x fun x=>gU P M t m k x
 | .lookup t m k ok=>rd E m fun m=>rd E k fun k=>iw P T M t m k ok
 | .typeAssert x _ t ok=>rd E x fun v=>mf P T t ok v
 | .range t x=>rd E x fun v=>qb T cnt t v
 | .next x isS=>rd E x fun v=>mT M v isS
 | .call c=>match c.callee with
  | .builtin b=>oM E c.args.toList fun vs=>fA P T M cnt b c.argTypes vs
  | _=> .bad
 | _=> .bad
end
end
section
def bP (w:World) (P:cB) (adr:gG) (m:FM) (cnt:Nat) (r:MV) (δ:Dl) (u:Value) (w':World):Prop:=
 ∃(P':cB) (aN:gG),aM w' P' aN r u∧bf w' P' aN (δ.appF cnt m)∧bJ w w' P P' adr aN∧(∀c,c≠cnt→aN c=adr c)∧
  (∀g,aN cnt=some g→w.heap.size≤g∨∃c,adr c=some g)∧db (fun b=> ∃c,adr c=some b) w w'∧(∀b o,P' b o→P b o∨w.heap.size≤b∨∃c,adr c=some b)
def Ik (Pg:Program) (o:Oper) (a:Act) (w:World) (Q:Value→World→Prop):Prop:=
 (∃u w',(execOp a.eval o).run Pg w= .ok (.value u) w'∧Q u w')∨(∃w',(execOp a.eval o).run Pg w= .ok .skip w'∧Q undef w')
section
variable {Pg:Program} {T:bD} {w w':World} {P P':cB} {adr aN:gG} {m:FM} {cnt:Nat} {K:MV×Dl→Prop} {u v x y:Value} {r:MV}
theorem bP.pure (hI:bf w P adr m) (hn:adr cnt=none) (h:aM w P adr r u):bP w P adr m cnt r .none u w:=
 ⟨P,adr,h,hI,bJ.refl _ _ _,fun _ _=>rfl,fun g (hg:adr cnt=some g)=>(by rw [hn] at hg;cases hg),db.refl _ _,fun _ _ h=> .inl h⟩
theorem Ik.val {o:Oper} {a:Act} {Q:Value→World→Prop} (s:Sem Value) (ho:execOp a.eval o=(do pure (.value (← s)))) (hr:s.run Pg w= .ok u w') (h:Q u w'):Ik Pg o a w Q:=
 .inl ⟨u,w',by rw [ho,Sem.run_bind,hr];rfl,h⟩
theorem Ik.unit {o:Oper} {a:Act} {Q:Value→World→Prop} (s:Sem Unit) (ho:execOp a.eval o=(do s;pure .skip)) (hr:s.run Pg w= .ok () w') (h:Q undef w'):Ik Pg o a w Q:=
 .inr ⟨w',by rw [ho,Sem.run_bind,hr];rfl,h⟩
theorem vE {cs:List Value} (h:r.isAgg=true):valM r cs= .agg ⟨cs⟩:=by unfold valM;rw [h];rfl
theorem BU (h:r.isAgg=false) (v:Value):valM r [v] =v:=by unfold valM;rw [h];rfl
theorem aM.int_ {k:IntKind} {n:Int} (h:aM w P adr (.int k n) u):u= .int k n:=by cases h with | val cs h=>cases h;rfl
theorem aM.undef_ (h:aM w P adr .undef u):u=Go.undef:=by cases h with | val cs h=>cases h | undef=>rfl
theorem aM.bool_ {b:Bool} (h:aM w P adr (.bool b) u):u= .bool b:=by cases h with | val cs h=>cases h;rfl
theorem aM.str_ {s:List UInt8} (h:aM w P adr (.str s) u):u= .string ⟨s.toArray⟩:=by cases h with | val cs h=>cases h;rfl
theorem aM.nilp_ (h:aM w P adr .nilp u):u= .pointer none:=by cases h with | val cs h=>cases h;rfl
theorem aM.nils_ (h:aM w P adr .nils u):u= .slice none 0 0:=by cases h with | val cs h=>cases h;rfl
theorem aM.nili_ (h:aM w P adr .nili u):u= .nilIface:=by cases h with | val cs h=>cases h;rfl
theorem aM.gp_ {g o:Nat} (h:aM w P adr (.gp g o) u):u= .pointer (some ⟨g,o,none⟩):=by cases h with | val cs h=>cases h;rfl
theorem aM.ptr_ {c es k fo:Nat} {path:List Nat} (h:aM w P adr (.ptr c es k fo path) u): ∃g,adr c=some g∧u= .pointer (some ⟨g,k * es + fo,none⟩):=by
 cases h with | val cs h=>cases h with | ptr g h=>exact ⟨g,h,rfl⟩
theorem aM.ep_ {fo:Nat} {path:List Nat} (h:aM w P adr (.ep r fo path) u): ∃(b o:Nat) (vs:List Value),u= .pointer (some ⟨b,o + fo,none⟩)∧(∀(j:Nat) x,vs[j]? =some x→w.cell? ⟨b,o + j,none⟩=some x∧P b (o + j))∧dk w P noAdr r vs:=by
 cases h with | val cs h=>cases h with | ep b o vs hc hr=>exact ⟨b,o,vs,rfl,hc,hr⟩
theorem aM.sl_ {n:Nat} {l:List MV} (h:aM w P adr (.sl n l) u): ∃(A:Option Addr) (cap es:Nat) (parts:List (List Value)),u= .slice A n cap∧l.length=n∧parts.length=n∧(∀p∈parts,p.length=es)∧(A=none→n=0∧cap=0)∧n≤cap∧
  (n≠0→∃b o,A=some ⟨b,o,none⟩∧∀(j:Nat) x,parts.flatten[j]? =some x→w.cell? ⟨b,o + j,none⟩=some x∧P b (o + j))∧(∀(j:Nat) m p,l[j]? =some m→parts[j]? =some p→dk w P noAdr m p):=by
 cases h with | val cs h=>cases h with | sl A cap es parts h1 h2 h3 h4 h7 h5 h6=>exact ⟨A,cap,es,parts,rfl,h1,h2,h3,h4,h7,h5,h6⟩
theorem aM.ms_ {c es off n:Nat} (h:aM w P adr (.ms c es off n) u):(u= .slice none 0 0∧off=0∧n=0)∨∃g o cap,adr c=some g∧u= .slice (some ⟨g,o,none⟩) n cap∧(n≠0∨off=0→o=off * es)∧n≤cap∧cap≤maxLen∧
  ∃cur ty,w.heap[g]? =some (.cells cur ty (0,0))∧(off=0→cur.size=cap * es):=by
 cases h with | val cs h=>cases h with
  | ms0=>exact .inl ⟨rfl,rfl,rfl⟩
  | ms g o cap h1 h2 h3 h4 h5=>exact .inr ⟨g,o,cap,h1,rfl,h2,h3,h4,h5⟩
theorem aM.agg_ (h:aM w P adr r u) (ha:r.isAgg=true): ∃cs,dk w P adr r cs∧u= .agg ⟨cs⟩:=by
 cases h with
 | val cs h=>exact ⟨cs,h,vE ha⟩
 | undef=>cases ha
 | tup=>cases ha
theorem jg {d:TD} {r:MV} (h:fits d r=true):r.size=d.size∧r.isAgg=d.agg∧r.isVal=true:=by
 unfold fits at h;rw [a₁,a₁] at h;refine⟨a₀ h.1.2,?_,h.1.1⟩;have h2:=h.2;cases ha:r.isAgg <;> cases hb:d.agg <;> rw [ha,hb] at h2 <;> first | rfl | cases h2
theorem nu {d:TD} (h:aM w P adr r u) (hf:fits d r=true): ∃cs,dk w P adr r cs∧u=valM r cs∧cs.length=d.size:=by
 obtain⟨hs,_,hv⟩:=jg hf;cases h with
 | val cs h=>exact ⟨cs,h,rfl,by rw [h.size,hs]⟩
 | undef=>cases hv
 | tup=>cases hv
theorem yK (hT:cZ Pg T) {t:TypeId} {d:TD} (hd:bD.find T t=some d) {b o:Nat} {cs:List Value} (hr:dk w P adr r cs) (hf:fits d r=true) (hc: ∀(j:Nat) x,cs[j]? =some x→w.cell? ⟨b,o + j,none⟩=some x) :
  (Instr.loadAt t (.pointer (some ⟨b,o,none⟩))).run Pg w= .ok (valM r cs) w:=by
 obtain⟨hs,ha,_⟩:=jg hf
 have hl:cs.length=d.size:=by rw [hr.size,hs]
 have hld:(loadVar t ⟨b,o,none⟩).run Pg w= .ok (valM r cs) w:=by
  cases hg:d.agg with
  | true=>
   rw [vE (by rw [ha,hg])]
   exact ldn hT hd hg hl (fun j v hv=>hc j v hv) (Below.refl _ _)
  | false=>
   have Vz:r.isAgg=false:=by rw [ha,hg]
   obtain⟨v,rfl⟩:=hr.scalar Vz
   rw [BU Vz]
   have:=hc 0 v rfl
   exact ld1 hT hd hg (o:=o) (j:=0) (p:=o) (cs:= [v]) (fun j x hx=>hc j x hx) rfl rfl (Below.refl _ _)
 simp only [Instr.loadAt,Instr.sureAddr,Sem.run_bind,Sem.run_pure,Result.andThen_ok]
 exact hld
theorem Il {ks vs:List MV} {path:List Nat} {fo:Nat} {r:MV} (h:fj (.mpv ks vs) path fo=some r):r.isVal=false:=by
 cases path with
 | nil=>
  have h:(bif a₂ fo 0 then some (MV.mpv ks vs) else none)=some r:=h;cases hb:a₂ fo 0 with
  | false=>rw [hb] at h;cases h
  | true=>rw [hb] at h;injection h with h;subst h;rfl
 | cons i p=>simp [fj] at h
theorem BV (hT:cZ Pg T) {t:TypeId} {p:MV} (h:(iv T m t p).runP K) (hp:aM w P adr p u) (hI:bf w P adr m) :
  ∃r v,K (r, .none)∧(Instr.loadAt t u).run Pg w= .ok v w∧aM w P adr r v:=by
 unfold iv at h
 split at h
 ·exact h.elim
 rename_i d hd
 split at h
 ·rename_i c es k fo path
  split at h
  ·rename_i b hb
   cases ej:a₂ b.es es with
   | false=>rw [ej] at h;exact h.elim
   | true=>
    rw [ej] at h
    have ej:=a₀ ej
    obtain⟨x,hx,r,hr,h⟩:=h
    replace h:bz.runP (bif fits d r then pureA r else .bad) K:=h
    cases hf:fits d r with
    | false=>rw [hf] at h;exact h.elim
    | true=>
     rw [hf] at h
     obtain⟨g,hg,rfl⟩:=hp.ptr_
     rw [bZ] at hx
     rcases hI.blk c b hb with h1 | ⟨g',h1,h2⟩
     ·rw [hg] at h1;cases h1.2.2.1
     ·rw [hg] at h1
      injection h1 with h1
      subst h1
      obtain⟨cur,parts,h3,h4,h5,h6,h7⟩:=h2.ofX hx (fun ks vs e=>by subst e;have:=Il hr;rw [(jg hf).2.2] at this;cases this)
      obtain⟨q,hq⟩:=dv h4 hx
      have dA:dk w P adr x q:=by
       have:=h6 k x q hx hq
       cases dP:b.row <;> rw [dP] at this
       ·exact this
       ·exact this.ofNone
      obtain⟨pre,cs,post,e1,e2,h8⟩:=oK dA hr
      refine⟨r,_,h,yK hT hd h8 hf (fun j y hy=>?_), .val cs h8⟩
      have eS:=(a₄.1 hq).1
      have ib:(parts.take k).flatten.length=k * es:=by
       rw [aU (es:=b.es) fun x hx=>h5 x (b₄ hx),a₇,b₉ om,ej]
      have xN:parts.flatten[k * es + fo + j]? =some y:=by
       rw [cK hq,e1,b₅,b₈ om,ib]
       rw [b₅,b₅,b₈ om,b₂ (by have:=(a₄.1 hy).1;omega)]
       rw [show k * es + fo + j - k * es - pre.length=j by omega]
       exact hy
      rw [cell_of_row w g _ cur b.ty (0,0) h3]
      have:=eH h7 xN
      simpa using this
  ·exact h.elim
 ·rename_i v0 fo path
  obtain⟨r,hr,h⟩:=h
  replace h:bz.runP (bif fits d r then pureA r else .bad) K:=h
  cases hf:fits d r with
  | false=>rw [hf] at h;exact h.elim
  | true=>
   rw [hf] at h
   obtain⟨b,o,vs,rfl,hc,hv⟩:=hp.ep_
   obtain⟨pre,cs,post,e1,e2,h8⟩:=oK hv hr
   refine⟨r,_,h,yK hT hd h8 hf (fun j y hy=>?_), .val cs h8.ofNone⟩
   have:=(hc (fo + j) y (by rw [e1,b₅,b₈ om,b₂ (by have:=(a₄.1 hy).1;omega),show fo + j - pre.length=j by omega];exact hy)).1
   rw [show o + fo + j=o + (fo + j) by omega]
   exact this
 ·exact h.elim
end
end
section
section
variable {Pg:Program} {T:bD} {w w':World} {P P':cB} {adr aN:gG} {m:FM} {cnt:Nat} {K:MV×Dl→Prop} {u v x y:Value} {r:MV}
theorem Im {cs:List Value} (h:dk w P adr r cs):(valM r cs).cells.size=cs.length:=by rw [← Array.length_toList,lW h]
theorem Io {ks vs:List MV} {path:List Nat} {fo:Nat} {v r:MV} (h:fk (.mpv ks vs) path fo v=some r) (hv:v.isVal=true):False:=by
 cases path with
 | nil=>
  have h:(bif a₂ fo 0 && a₂ v.size 0 then(match v.isAgg,false with | true,true | false,false=>some v | _,_=>none) else none)=some r:=h;cases hb:(a₂ fo 0 && a₂ v.size 0) with
  | false=>rw [hb] at h;cases h
  | true=>
   rw [hb] at h;rw [a₁] at hb;have h1:=a₀ hb.2;cases v with
   | st l=>simp [MV.isAgg] at h
   | arr n es l=>simp [MV.isAgg] at h
   | mpv=>cases hv
   | _=>simp [MV.size] at h1
 | cons i p=>simp [fk] at h
theorem EH (hT:cZ Pg T) {t:TypeId} {p q:MV} (h:(gK T m t p q).runP K) (hp:aM w P adr p u) (hq:aM w P adr q v) (hI:bf w P adr m) (cnt:Nat) :
  ∃δ w',K (.undef,δ)∧(Instr.storeAt t u v).run Pg w= .ok () w'∧bf w' P adr (δ.appF cnt m)∧bJ w w' P P adr adr∧db (fun b=> ∃c,adr c=some b) w w':=by
 unfold gK at h
 split at h
 ·exact h.elim
 rename_i d hd
 split at h
 ·rename_i c es k fo path
  split at h
  ·rename_i b hb
   cases ej:(a₂ b.es es && fits d q && (!b.row || q.idFree)) with
   | false=>rw [ej] at h;exact h.elim
   | true=>
    rw [ej] at h
    rw [a₁,a₁] at ej
    obtain⟨⟨ej,hf⟩,dP⟩:=ej
    have ej:=a₀ ej
    obtain⟨hpe,x,hx,x',Gm,l,hl,h⟩:=h
    injection hl with hl
    subst hl
    obtain⟨g,hg,rfl⟩:=hp.ptr_
    rw [bZ] at hx
    obtain⟨cs,pw,rfl,sG⟩:=nu hq hf
    rcases hI.blk c b hb with h1 | ⟨g',h1,h2⟩
    ·rw [hg] at h1;cases h1.2.2.1
    ·rw [hg] at h1
     injection h1 with h1
     subst h1
     obtain⟨cur,parts,h3,h4,h5,h6,h7⟩:=h2.ofX hx (fun ks vs e=>by subst e;exact Io Gm (jg hf).2.2)
     obtain⟨z,hz⟩:=dv h4 hx
     have J9:dk w P (if b.row then noAdr else adr) q cs:=by
      cases hr:b.row with
      | false=>exact pw
      | true=>rw [hr] at dP;exact pw.free (by simpa using dP)
     obtain⟨pre,old,post,e1,e2,e3,h8,h9,Gb⟩:=sQ (h6 k x z hx hz) Gm J9
     have eS:=(a₄.1 hz).1
     have ib:(parts.take k).flatten.length=k * es:=by
      rw [aU (es:=b.es) fun x hx=>h5 x (b₄ hx),a₇,b₉ om,ej]
     obtain⟨tl,Kt⟩:=h7
     have zW:cur.toList=(parts.take k).flatten ++ (pre ++ old ++ post) ++ ((parts.drop (k + 1)).flatten ++ tl):=by
      rw [← Kt,cK hz,e1];simp
     have Kb:((parts.take k).flatten ++ pre).length=k * es + fo:=by rw [a₅,ib,e2]
     have oJ:cur.size=k * es + fo + old.length + post.length + ((parts.drop (k + 1)).flatten ++ tl).length:=by
      rw [← Array.length_toList,zW]
      simp only [a₅] at Kb ⊢
      omega
     have vk:=run_storeCells_at Pg g (k * es + fo) b.ty cs 0 cur w h3 om pw.one
     have Xr:cur.toList.take (k * es + fo + 0)=(parts.take k).flatten ++ pre:=by
      rw [zW,g₉,← Kb]
      rw [show (parts.take k).flatten ++ (pre ++ old ++ post) ++ ((parts.drop (k + 1)).flatten ++ tl)=((parts.take k).flatten ++ pre) ++ (old ++ post ++ ((parts.drop (k + 1)).flatten ++ tl)) by simp]
      exact e₂
     have Yh:cur.toList.drop (k * es + fo + 0 + cs.length)=post ++ ((parts.drop (k + 1)).flatten ++ tl):=by
      rw [zW,g₉,← e3,← Kb]
      rw [show (parts.take k).flatten ++ (pre ++ old ++ post) ++ ((parts.drop (k + 1)).flatten ++ tl)=(((parts.take k).flatten ++ pre) ++ old) ++ (post ++ ((parts.drop (k + 1)).flatten ++ tl)) by simp]
      rw [← a₅]
      exact e₈
     rw [Xr,Yh] at vk
     have hw:=hI.write (b':={ b with l:=setL b.l k x' }) (by simp [setL_eq]) hb hg rfl rfl rfl h3 (cur':=((parts.take k).flatten ++ pre ++ cs ++ (post ++ ((parts.drop (k + 1)).flatten ++ tl))).toArray)
      (by simp only [c₀,a₅] at Kb oJ ⊢;omega)
      (fun o ho=>by
       have h11:=h2.pe o ho
       have Yf:b.pe * b.es≤k * es:=by rw [ej];exact c₈ _ hpe
       have e4:cur[o]? =cur.toList[o]? :=sm
       rw [e4,zW]
       have e5:((parts.take k).flatten ++ pre ++ cs ++ (post ++ ((parts.drop (k + 1)).flatten ++ tl))).toArray[o]? =((parts.take k).flatten ++ pre ++ cs ++ (post ++ ((parts.drop (k + 1)).flatten ++ tl)))[o]? :=sm
       rw [e5]
       simp only [b₅]
       rw [b₂ om,b₂ om])
      (parts:=parts.set k (pre ++ cs ++ post)) (by simp [setL_eq,h4])
      (fun p hp=>by
       rcases f₂ hp with hp | rfl
       ·exact h5 p hp
       ·have:=h5 z (a₉ hz)
        rw [e1] at this
        simp only [a₅] at this ⊢
        show _=b.es
        omega)
      (fun j y z' hy tW=>by
       have hy:(setL b.l k x')[j]? =some y:=hy
       rw [setL_eq] at hy
       rcases cO hy with ⟨rfl,rfl⟩ | ⟨gf,hy⟩
       ·rcases cO tW with ⟨_,rfl⟩ | ⟨gf,_⟩
        ·exact h8
        ·exact absurd rfl gf
       ·rcases cO tW with ⟨rfl,_⟩ | ⟨_,tW⟩
        ·exact absurd rfl gf
        ·exact h6 j y z' hy tW)
      ⟨tl,by rw [kJ hz];simp⟩
     refine⟨.upd c (setL b.l k x'),_,h,?_,?_,hw.2,?_⟩
     ·have jc:=bG (TD.fits_size (hT.fits hd)) w
      simp only [Instr.storeAt,Instr.sureAddr,Sem.run_bind,Sem.run_pure,Result.andThen_ok,storeVar,jc,Im pw,sG]
      simp only [ne_eq,not_true_eq_false,if_false,lW pw]
      exact vk
     ·have e6:Dl.appF cnt (.upd c (setL b.l k x')) m=aR m c { b with l:=setL b.l k x' }:=by
       show(match m c with | some b=>_ | none=>m)=_
       rw [hb]
      rw [e6]
      exact hw.1
     ·exact⟨rfl,rfl,rfl,sm,fun b' px gf=>setRow_other _ _ _ _ fun e=>gf ⟨c,by rw [e];exact hg⟩⟩
  ·exact h.elim
 ·exact h.elim
theorem Ip (hT:cZ Pg T) {t:TypeId} {p q:MV} (h:(gK T m t p q).runP K) (hp:aM w P adr p u) (hq:aM w P adr q v) (hI:bf w P adr m) (hn:adr cnt=none) :
  ∃δ w',K (.undef,δ)∧(Instr.storeAt t u v).run Pg w= .ok () w'∧bP w P adr m cnt .undef δ undef w':=by
 obtain⟨δ,w',h1,h2,h3,h4,h5⟩:=EH hT h hp hq hI cnt
 exact⟨δ,w',h1,h2,P,adr, .undef,h3,h4,fun _ _=>rfl,fun g hg=>(by rw [hn] at hg;cases hg),h5,fun _ _ h=> .inl h⟩
theorem ye (hT:cZ Pg T) {t:TypeId} {p:MV} {f:Nat} (h:(gX T t p f).runP K) (hp:aM w P adr p u) :
  ∃r v,K (r, .none)∧(Instr.fieldAt t u f).run Pg w= .ok v w∧aM w P adr r v:=by
 unfold gX at h
 split at h
 ·rename_i fs sz hd
  have hf:=hT.fits hd
  split at h
  ·rename_i o ft UQ
   obtain⟨fields,hu,h3,h4,_⟩:=TD.fits_struct hf
   obtain⟨fd,hfd,ho⟩: ∃fd:Field,fields.toList[f]? =some fd∧fd.offset=o:=by
    rw [vq,← h3,b₁,d₀] at UQ
    obtain⟨fd,h5,h6⟩:=UQ
    exact⟨fd,h5,congrArg Prod.fst h6⟩
   have a0n:fields[f]? =some fd:=by simpa using hfd
   have lT: ∃n,gF Pg fd.type n=true∧0 < n:=by
    have:=b₇.1 h4 fd (a₉ hfd)
    unfold zX at this
    split at this
    ·rename_i i hi
     exact⟨i.size,by simp [gF,hi],by simpa using this⟩
    ·cases this
   obtain⟨n,hn,uD⟩:=lT
   have key: ∀(w:World) (b off:Nat),(Instr.fieldAt t (.pointer (some ⟨b,off,none⟩)) f).run Pg w= .ok (.pointer (some ⟨b,off + o,none⟩)) w:=by
    intro w b off
    have hs:=bG hn w
    have S5:n≠0:=om
    simp only [Instr.fieldAt,Instr.sureAddr,fieldPlace,Sem.run_bind,run_underlying hu,Result.andThen_ok,a0n,Sem.run_pure,hs,S5,if_false,ho,Addr.add_mid]
   split at h
   ·obtain⟨g,hg,rfl⟩:=hp.ptr_
    refine⟨_,_,h,key _ _ _,?_⟩
    rw [f₀]
    exact .val [_] (.ptr g hg)
   ·obtain⟨b,o',vs,rfl,hc,hv⟩:=hp.ep_
    refine⟨_,_,h,key _ _ _,?_⟩
    rw [f₀]
    exact .val [_] (.ep b o' vs hc hv)
   ·rw [hp.gp_]
    exact⟨_,_,h,key _ _ _, .val [_] .gp⟩
   ·exact h.elim
  ·exact h.elim
 ·exact h.elim
theorem qH {n:Nat} {j:Int} {k:Nat} (h:EG n j=some k):j=(k:Int)∧k < n:=by
 unfold EG at h;split at h
 ·injection h with h;omega
 ·cases h
theorem BW {l:List MV} {n:Nat} {j:Int} {x:MV} (h:bI l n j=some x): ∃k:Nat,j=(k:Int)∧k < n∧l[k]? =some x:=by
 unfold bI at h;split at h
 ·exact⟨j.toNat,om,om,h⟩
 ·cases h
theorem yf (hT:cZ Pg T) {t:TypeId} {p j:MV} (h:(gY T t p j).runP K) (hp:aM w P adr p u) (hj:aM w P adr j v) :
  ∃r y,K (r, .none)∧(Instr.indexAt t u v).run Pg w= .ok y w∧aM w P adr r y:=by
 unfold gY at h
 split at h
 ·rename_i e es hd
  obtain⟨hu,hs⟩:=TD.fits_slice (hT.fits hd)
  have key: ∀(A:Option Addr) (b o len cap k:Nat) (k0:IntKind),A=some ⟨b,o,none⟩→k < len→(Instr.indexAt t (.slice A len cap) (.int k0 (k:Int))).run Pg w= .ok (.pointer (some ⟨b,o + k * es,none⟩)) w:=by
   intro A b o len cap k k0 hA hk
   subst hA
   have hi:(0:Int)≤(k:Int)∧(k:Int) < (len:Int):=⟨om,om⟩
   simp only [Instr.indexAt,asIntOf,Sem.run_bind,Sem.run_pure,Result.andThen_ok,run_underlying hu,bG hs,hi,and_self,if_true,d₁,Addr.add_mid]
  split at h
  ·obtain⟨x,hx,h⟩:=h
   replace h:bz.runP (bif a₂ x.size es then pureA (.ep x 0 []) else .bad) K:=h
   cases ej:a₂ x.size es with
   | false=>rw [ej] at h;exact h.elim
   | true=>
    rw [ej] at h
    have ej:=a₀ ej
    rw [hj.int_]
    obtain⟨k,rfl,hk,hx⟩:=BW hx
    obtain⟨A,cap,gr,parts,rfl,h1,h2,h3,h4,_,h5,h6⟩:=hp.sl_
    obtain⟨b,o,hA,hc⟩:=h5 om
    obtain⟨q,hq⟩:=dv (h2.trans h1.symm) hx
    have dA:=h6 k x q hx hq
    have Kp:=h3 q (a₉ hq)
    have hee:gr=es:=by rw [← Kp,dA.size,ej]
    subst hee
    refine⟨_,_,h,key A b o _ cap k _ hA hk,?_⟩
    refine .val [_] ?_
    have:=dk.ep (w:=w) (P:=P) (adr:=adr) (v:=x) (fo:=0) (path:= []) b (o + k * gr) q (fun j y hy=>?_) dA
    ·simpa using this
    ·have ib:(parts.take k).flatten.length=k * gr:=by
      rw [aU (es:=gr) fun x hx=>h3 x (b₄ hx),a₇,b₉ om]
     have xN:parts.flatten[k * gr + j]? =some y:=by
      rw [cK hq,b₅,b₈ om,ib,b₂ (by have:=(a₄.1 hy).1;omega),show k * gr + j - k * gr=j by omega]
      exact hy
     have:=hc _ y xN
     rw [show o + k * gr + j=o + (k * gr + j) by omega]
     exact this
  ·rename_i c gr off n k1 j1
   cases ej:a₂ gr es with
   | false=>rw [ej] at h;exact h.elim
   | true=>
    rw [ej] at h
    have ej:=a₀ ej
    subst ej
    obtain⟨k,hk,h⟩:=h
    obtain⟨xW,pV⟩:=qH hk
    rw [hj.int_,xW]
    rcases hp.ms_ with ⟨_,_,h0⟩ | ⟨g,o,cap,hg,rfl,ho,_⟩
    ·omega
    ·have ho:=ho (.inl om)
     subst ho
     refine⟨_,_,h,key _ g (off * gr) _ cap k _ rfl pV, .val [_] ?_⟩
     have:=dk.ptr (w:=w) (P:=P) (adr:=adr) (c:=c) (es:=gr) (k:=off + k) (fo:=0) (path:= []) g hg
     rw [d₇,g₉] at this
     exact this
  ·exact h.elim
 ·rename_i len e es hd
  obtain⟨hu,hs⟩:=TD.fits_arr (hT.fits hd)
  have key: ∀(w:World) (b o k:Nat) (k0:IntKind),k < len→(Instr.indexAt t (.pointer (some ⟨b,o,none⟩)) (.int k0 (k:Int))).run Pg w= .ok (.pointer (some ⟨b,o + k * es,none⟩)) w:=by
   intro w b o k k0 hk
   have hi:(0:Int)≤(k:Int)∧(k:Int) < (len:Int):=⟨om,om⟩
   simp only [Instr.indexAt,Instr.sureAddr,asIntOf,Sem.run_bind,Sem.run_pure,Result.andThen_ok,run_underlying hu,bG hs,hi,and_self,if_true,d₁,Addr.add_mid]
  split at h
  ·obtain⟨k,hk,h⟩:=h
   obtain⟨xW,pV⟩:=qH hk
   rw [hj.int_,xW]
   obtain⟨g,hg,rfl⟩:=hp.ptr_
   refine⟨_,_,h,key _ _ _ _ _ pV,?_⟩
   rw [f₀]
   exact .val [_] (.ptr g hg)
  ·obtain⟨k,hk,h⟩:=h
   obtain⟨xW,pV⟩:=qH hk
   rw [hj.int_,xW]
   obtain⟨b,o',vs,rfl,hc,hv⟩:=hp.ep_
   refine⟨_,_,h,key _ _ _ _ _ pV,?_⟩
   rw [f₀]
   exact .val [_] (.ep b o' vs hc hv)
  ·obtain⟨k,hk,h⟩:=h
   obtain⟨xW,pV⟩:=qH hk
   rw [hj.int_,xW,hp.gp_]
   exact⟨_,_,h,key _ _ _ _ _ pV, .val [_] .gp⟩
  ·exact h.elim
 ·exact h.elim
end
end
section
section
variable {Pg:Program} {T:bD} {w w':World} {P P':cB} {adr aN:gG} {m:FM} {cnt:Nat} {K:MV×Dl→Prop} {u v x y:Value} {r:MV}
theorem BX (hT:cZ Pg T) {t:TypeId} {d:TD} (hd:bD.find T t=some d) {pre cs post:List Value} (h:dk w P adr r cs) (hf:fits d r=true) (w0:World) {o:Nat} (ho:pre.length=o) :
  (part t ⟨pre ++ cs ++ post⟩ o).run Pg w0= .ok (valM r cs) w0:=by
 obtain⟨hs,ha,_⟩:=jg hf
 have hl:cs.length=d.size:=by rw [h.size,hs]
 have gM:=bG (TD.fits_size (hT.fits hd)) w0
 subst ho
 cases hg:d.agg with
 | true=>
  rw [vE (by rw [ha,hg])]
  simp only [part,Sem.run_bind,TD.fits_agg (hT.fits hd),hg,Result.andThen_ok,if_true,gM,Sem.run_pure]
  have:(⟨pre ++ cs ++ post⟩:Array Value).extract pre.length (pre.length + d.size)=⟨cs⟩:=by
   apply Array.toList_inj.1
   simp only [Array.toList_extract,g₈]
   rw [b₅,e₈,show pre.length + d.size - pre.length=d.size by omega,← hl,e₂]
  rw [this]
 | false=>
  have Vz:r.isAgg=false:=by rw [ha,hg]
  obtain⟨v,rfl⟩:=h.scalar Vz
  rw [BU Vz]
  simp only [part,Sem.run_bind,TD.fits_agg (hT.fits hd),hg,Result.andThen_ok,c₃,if_false]
  have:(⟨pre ++ [v] ++ post⟩:Array Value)[pre.length]? =some v:=sm
  rw [this];rfl
theorem Iq (hT:cZ Pg T) {t:TypeId} {p j:MV} (h:(pZ T t p j).runP K) (hp:aM w P adr p u) (hj:aM w P adr j v) :
  ∃r y,K (r, .none)∧(Instr.index t u v).run Pg w= .ok y w∧aM w P adr r y:=by
 unfold pZ at h
 split at h
 ·rename_i s k0 j hd
  obtain⟨c,hc,h⟩:=h
  have hu:=TD.fits_str (hT.fits hd)
  rw [hp.str_,hj.int_]
  refine⟨_, .int .u8 c.toNat,h,?_, .val [_] .int⟩
  unfold BQ at hc
  split at hc
  ·rename_i h0
   have hb:(⟨s.toArray⟩:ByteArray)[j.toNat]? =some c:=by
    rw [← hc]
    have eS:=(a₄.1 hc).1
    have:j.toNat < (⟨s.toArray⟩:ByteArray).size:=by simpa [ByteArray.size] using eS
    rw [getElem?_pos (⟨s.toArray⟩:ByteArray) j.toNat this,a₃ eS]
    rfl
   simp [Instr.index,asIntOf,run_underlying hu,h0,hb]
  ·cases hc
 ·rename_i n e es n' gr l k0 j hd
  split at h
  ·rename_i d Ex
   cases hb:(a₂ n n' && a₂ es gr) with
   | false=>rw [hb] at h;exact h.elim
   | true=>
    rw [hb] at h
    rw [a₁] at hb
    have e1:=a₀ hb.1
    have e2:=a₀ hb.2
    subst e1;subst e2
    obtain⟨x,hx,h⟩:=h
    replace h:bz.runP (bif fits d x then pureA x else .bad) K:=h
    cases hf:fits d x with
    | false=>rw [hf] at h;exact h.elim
    | true=>
     rw [hf] at h
     obtain⟨k,rfl,hk,hx⟩:=BW hx
     rw [hj.int_]
     obtain⟨cs,pw,rfl⟩:=hp.agg_ rfl
     cases pw with
     | arr parts h1 h2 h3 h4=>
      obtain⟨hu,hs⟩:=TD.fits_arr (hT.fits hd)
      obtain⟨q,hq⟩:=dv (h2.trans h1.symm) hx
      have dA:=(h4 k x q hx hq).ofNone (adr:=adr)
      have ib:(parts.take k).flatten.length=k * es:=by
       rw [aU (es:=es) fun x hx=>h3 x (b₄ hx),a₇,b₉ om]
      refine⟨x,valM x q,h,?_, .val q dA⟩
      have hi:(0:Int)≤(k:Int)∧(k:Int) < (n:Int):=⟨om,om⟩
      have zQ:=BX hT Ex (pre:=(parts.take k).flatten) (post:=(parts.drop (k + 1)).flatten) dA hf w ib
      rw [← cK hq] at zQ
      simp only [Instr.index,asIntOf,Sem.run_bind,Sem.run_pure,Result.andThen_ok,run_underlying hu,hi,and_self,if_true,bG hs,d₁]
      exact zQ
  ·exact h.elim
 ·exact h.elim
theorem Ir (hT:cZ Pg T) {t:TypeId} {p:MV} {f:Nat} (h:(p8 T t p f).runP K) (hp:aM w P adr p u) :
  ∃r y,K (r, .none)∧(Instr.field t u f).run Pg w= .ok y w∧aM w P adr r y:=by
 unfold p8 at h
 split at h
 ·rename_i fs sz l hd
  split at h
  ·rename_i o ft x hn hx
   split at h
   ·rename_i d Ex
    cases hb:(fits d x && a₂ (fV l f) o) with
    | false=>rw [hb] at h;exact h.elim
    | true=>
     rw [hb] at h
     rw [a₁] at hb
     have ho:=a₀ hb.2
     obtain⟨fields,hu,Y5,_,_⟩:=TD.fits_struct (hT.fits hd)
     rw [vq] at hn
     rw [← Y5] at hn
     simp only [b₁,d₀] at hn
     obtain⟨fl,xN,he⟩:=hn
     injection he with xS xU
     subst xU
     have d0d:fields[f]? =some fl:=by simpa using xN
     rw [bZ] at hx
     obtain⟨cs,pw,rfl⟩:=hp.agg_ rfl
     cases pw with
     | st parts h2 h4=>
      obtain⟨q,hq⟩:=dv h2 hx
      have dA:=h4 f x q hx hq
      have ib:(parts.take f).flatten.length=fl.offset:=by
       rw [lX h2 fun j m p h1 h2=>(h4 j m p h1 h2).size,ho,← xS]
      refine⟨x,valM x q,h,?_, .val q dA⟩
      have zQ:=BX hT Ex (pre:=(parts.take f).flatten) (post:=(parts.drop (f + 1)).flatten) dA hb.1 w ib
      rw [← cK hq] at zQ
      simp only [Instr.field,Sem.run_bind,Result.andThen_ok,run_underlying hu,d0d,asAgg,Sem.run_pure]
      exact zQ
   ·exact h.elim
  ·exact h.elim
 ·exact h.elim
theorem j9 {n:Nat} {lo hi:Option MV} {l h:Nat} (hb:dN n lo hi=some (l,h)):l≤h∧h≤n∧(hi=none∧h=n∨∃k,hi=some (.int k h))∧(lo=none∧l=0∨∃k,lo=some (.int k l)):=by
 have h1: ∀{hi:Option MV} {h:Nat},(match hi with | none=>some n | some (.int _ h)=>if 0≤h∧h≤(n:Int) then some h.toNat else none | _=>none)=some h→h≤n∧(hi=none∧h=n∨∃k,hi=some (.int k h)):=by
  intro hi h he;split at he
  ·injection he with he;exact⟨om, .inl ⟨rfl,he.symm⟩⟩
  ·rename_i k j;split at he
   ·injection he with he
    refine⟨om, .inr ⟨k,?_⟩⟩;rw [← he];congr;omega
   ·cases he
  ·cases he
 have h2: ∀{lo:Option MV} {l h:Nat},(match lo with | none=>some 0 | some (.int _ l)=>if 0≤l∧l≤(h:Int) then some l.toNat else none | _=>none)=some l→l≤h∧(lo=none∧l=0∨∃k,lo=some (.int k l)):=by
  intro lo l h he;split at he
  ·injection he with he;exact⟨om, .inl ⟨rfl,he.symm⟩⟩
  ·rename_i k j;split at he
   ·injection he with he
    refine⟨om, .inr ⟨k,?_⟩⟩;rw [← he];congr;omega
   ·cases he
  ·cases he
 unfold dN at hb;split at hb
 ·cases hb
 ·rename_i h' he;split at hb
  ·cases hb
  ·rename_i l' le;injection hb with hb
   injection hb with e1 e2
   subst e1;subst e2;obtain⟨a1,a2⟩:=h1 he;obtain⟨b1,b2⟩:=h2 le;exact⟨b1,a1,a2,b2⟩
def mg (w:World) (P:cB) (adr:gG):Option MV→Option Value→Prop
 | none,none=>True
 | some m,some v=>aM w P adr m v
 | _,_=>False
theorem mg.bnd {lo:Option MV} {vo:Option Value} {l d:Nat} (h:mg w P adr lo vo) (hl:lo=none∧l=d∨∃k,lo=some (.int k l)):vo=none∧l=d∨∃j,vo=some (.int j (l:Int)):=by
 rcases hl with ⟨rfl,e⟩ | ⟨k,rfl⟩
 ·cases vo with
  | none=>exact .inl ⟨rfl,e⟩
  | some v=>exact h.elim
 ·cases vo with
  | none=>exact h.elim
  | some v=>have h:aM w P adr (.int k l) v:=h;exact .inr ⟨k,by rw [h.int_]⟩
theorem eu {es:Nat} {parts:List (List Value)} (ej: ∀p∈parts,p.length=es) (a n:Nat) {j:Nat} {x:Value} (h:((parts.drop a).take n).flatten[j]? =some x):a≤parts.length→parts.flatten[a * es + j]? =some x:=by
 intro ha;have e1:parts=parts.take a ++ ((parts.drop a).take n ++ (parts.drop a).drop n):=by rw [c₆,c₆]
 have ib:(parts.take a).flatten.length=a * es:=by
  rw [aU (es:=es) fun x hx=>ej x (b₄ hx),a₇,b₉ ha]
 rw [e1,g₅,g₅,b₈ om,ib,show a * es + j - a * es=j by omega,b₂ (a₄.1 h).1];exact h
theorem ka {l:List MV} {a b j:Nat} {x:MV} (h:(cutL l a b)[j]? =some x):l[a + j]? =some x∧j < b - a:=by
 unfold cutL at h;rw [c₄] at h;split at h
 ·rw [c₅] at h;exact⟨h,by assumption⟩
 ·cases h
theorem Tb {n:Nat} {l:List MV} (h:aM w P adr (.sl n l) u) {a b es:Nat} (Kg:a≤b) (hb:b≤n) (hh:bg l es=true) :
  ∃A cap,u= .slice A n cap∧n≤cap∧aM w P adr (.sl (b - a) (cutL l a b)) (.slice (if cap=a then A else A.map (·.add (a * es))) (b - a) (cap - a)):=by
 obtain⟨A,cap,gr,parts,rfl,h1,h2,h3,h4,h7,h5,h6⟩:=h.sl_
 refine⟨A,cap,rfl,h7,?_⟩
 have hlen:(cutL l a b).length=b - a:=by unfold cutL;rw [a₇,c₂];omega
 have ej:n≠0→gr=es:=by
  intro h0
  cases l with
  | nil=>simp at h1;omega
  | cons x l=>
   have hx:=a₀ (show a₂ x.size es=true from hh)
   obtain⟨q,hq⟩:=dv (l:=x :: l) (parts:=parts) (by rw [h2,h1]) (i:=0) rfl
   have:=(h6 0 x q rfl hq).size
   rw [← hx,← this,h3 q (a₉ hq)]
 refine .val [_] (.sl _ _ gr ((parts.drop a).take (b - a)) hlen (by rw [a₇,c₂];omega) (fun p hp=>h3 p (g₂ (b₄ hp))) ?_ om ?_ ?_)
 ·intro hA
  have:A=none:=by
   split at hA
   ·exact hA
   ·cases A with
    | none=>rfl
    | some x=>cases hA
  have:=h4 this
  omega
 ·intro h0
  obtain⟨b',o,hA,hc⟩:=h5 om
  subst hA
  have hee:=ej om
  subst hee
  by_cases iq:cap=a
  ·omega
  ·rw [if_neg iq]
   refine⟨b',o + a * gr,by simp [Addr.add_mid],fun j x hx=>?_⟩
   have:=hc _ x (eu h3 a (b - a) hx om)
   rw [show o + a * gr + j=o + (a * gr + j) by omega]
   exact this
 ·intro j x p hx hp
  obtain⟨hx,hj⟩:=ka hx
  rw [c₄,if_pos hj,c₅] at hp
  exact h6 _ x p hx hp
theorem Is (hT:cZ Pg T) {t:TypeId} {p:MV} {lo hi:Option MV} {vl vh:Option Value} (h:(p9 T t p lo hi).runP K) (hp:aM w P adr p u) (hl:mg w P adr lo vl) (hh:mg w P adr hi vh) :
  ∃r y,K (r, .none)∧(Instr.sliceAt t u vl vh none).run Pg w= .ok y w∧aM w P adr r y:=by
 unfold p9 at h
 split at h
 ·rename_i s hd
  have hu:=TD.fits_str (hT.fits hd)
  obtain⟨⟨l,e⟩,hb,x,hx,h⟩:=h
  injection hx with hx
  subst hx
  obtain⟨h1,h2,h3,h4⟩:=j9 hb
  have gM:(⟨s.toArray⟩:ByteArray).size=s.length:=by simp [ByteArray.size]
  rw [hp.str_]
  refine⟨_, .string ⟨((s.drop l).take (e - l)).toArray⟩,h,?_, .val [_] .str⟩
  rw [run_sliceAt_string _ _ _ _ _ _ hu]
  have Xl:=eU (P:=Pg) (b:=false) (mg.bnd hl h4) (mg.bnd hh (d:=(⟨s.toArray⟩:ByteArray).size) (by rw [gM];exact h3)) h1 (show e≤(⟨s.toArray⟩:ByteArray).size by omega) w
  simp only [Instr.slice,Sem.run_bind,run_underlying hu,Result.andThen_ok,Option.isSome_none,c₃,if_false,Xl,Sem.run_pure]
  have hx:(⟨s.toArray⟩:ByteArray).extract l e=⟨((s.drop l).take (e - l)).toArray⟩:=by
   apply ByteArray.ext
   simp [ByteArray.data_extract,g₈]
  rw [hx]
 ·rename_i e0 es n l hd
  obtain⟨hu,hs⟩:=TD.fits_slice (hT.fits hd)
  obtain⟨⟨a,b⟩,hb,hhd,x,hx,k,hk,h⟩:=h
  injection hx with hx
  injection hk with hk
  subst hx;subst hk
  obtain⟨h1,h2,h3,h4⟩:=j9 hb
  obtain⟨A,cap,rfl,h5,h6⟩:=Tb hp h1 h2 hhd
  refine⟨_,_,h,?_,h6⟩
  have SX:Pg.underlying t=some (.slice (Pg.elem t)):=by rw [hu];simp [Program.elem,hu]
  rw [run_sliceAt_slice _ _ _ _ _ _ SX]
  simp [Instr.slice,run_underlying hu,eU (mg.bnd hl h4) (mg.bnd hh h3) h1 (show b≤cap by omega),bG hs]
 ·rename_i e0 es c gr off n hd
  obtain⟨hu,hs⟩:=TD.fits_slice (hT.fits hd)
  cases ej:a₂ es gr with
  | false=>rw [ej] at h;exact h.elim
  | true=>
   rw [ej] at h
   have ej:=a₀ ej
   subst ej
   obtain⟨⟨a,b⟩,hb,k,hk,h⟩:=h
   injection hk with hk
   subst hk
   obtain⟨h1,h2,h3,h4⟩:=j9 hb
   have SX:Pg.underlying t=some (.slice (Pg.elem t)):=by rw [hu];simp [Program.elem,hu]
   rcases hp.ms_ with ⟨rfl,rfl,rfl⟩ | ⟨g,o,cap,hg,rfl,ho,h5,h6,cur,ty,h7,h8⟩
   ·obtain rfl:b=0:=om
    obtain rfl:a=0:=om
    refine⟨_, .slice none 0 0,h,?_, .val [_] .ms0⟩
    rw [run_sliceAt_slice _ _ _ _ _ _ SX]
    simp [Instr.slice,run_underlying hu,eU (mg.bnd hl h4) (mg.bnd hh h3) h1 (show 0≤0 by omega),bG hs]
   ·refine⟨_, .slice (if cap=a then some ⟨g,o,none⟩ else some ⟨g,o + a * es,none⟩) (b - a) (cap - a),h,?_,?_⟩
    ·rw [run_sliceAt_slice _ _ _ _ _ _ SX]
     simp [Instr.slice,run_underlying hu,eU (mg.bnd hl h4) (mg.bnd hh h3) h1 (show b≤cap by omega),bG hs,Addr.add_mid]
    ·by_cases hca:cap=a
     ·rw [if_pos hca]
      refine .val [_] (.ms g o (cap - a) hg (fun hor=>?_) om om ⟨cur,ty,h7,fun h0=>?_⟩)
      ·have:off=0∧a=0:=om
       rw [ho (.inr this.1),this.2];rfl
      ·have:off=0∧a=0:=om
       rw [h8 this.1,this.2];rfl
     ·rw [if_neg hca]
      refine .val [_] (.ms g (o + a * es) (cap - a) hg (fun hor=>?_) om om ⟨cur,ty,h7,fun h0=>?_⟩)
      ·rw [ho om,d₇]
      ·have:off=0∧a=0:=om
       rw [h8 this.1,this.2];rfl
 ·rename_i e0 es hd
  obtain⟨hu,hs⟩:=TD.fits_slice (hT.fits hd)
  obtain⟨⟨a,b⟩,hb,h⟩:=h
  obtain⟨h1,h2,h3,h4⟩:=j9 hb
  obtain rfl:b=0:=om
  obtain rfl:a=0:=om
  rw [hp.nils_]
  have SX:Pg.underlying t=some (.slice (Pg.elem t)):=by rw [hu];simp [Program.elem,hu]
  refine⟨_, .slice none 0 0,h,?_, .val [_] .nils⟩
  rw [run_sliceAt_slice _ _ _ _ _ _ SX]
  simp [Instr.slice,run_underlying hu,eU (mg.bnd hl h4) (mg.bnd hh h3) h1 (show 0≤0 by omega),bG hs]
 ·exact h.elim
theorem Tc {op:UnOp} {p:MV} (h:(Ta op p).runP K) (hp:aM w P adr p u): ∃r y,K (r, .none)∧(Op.unary op u).run Pg w= .ok y w∧aM w P adr r y:=by
 unfold Ta at h;split at h
 ·rw [hp.bool_];exact⟨_,_,h,rfl, .val [_] .bool⟩
 ·obtain⟨r,hr,h⟩:=h;injection hr with hr
  subst hr;rw [hp.int_];exact⟨_,_,h,rfl, .val [_] .int⟩
 ·obtain⟨r,hr,h⟩:=h;injection hr with hr
  subst hr;rw [hp.int_];exact⟨_,_,h,rfl, .val [_] .int⟩
 ·exact h.elim
theorem OW (hT:cZ Pg T) {er:Array TypeId} {ty:TypeId} {p:MV} (h:(KA T (er[0]?) p).runP K) (hp:aM w P adr p u): ∃r y,K (r, .none)∧(Builtin.len_ er ty #[u]).run Pg w= .ok y w∧aM w P adr r y:=by
 unfold KA at h;cases ht:er[0]? with
 | none=>rw [ht] at h;exact h.elim
 | some t=>
  rw [ht] at h;split at h
  ·rename_i s hd;have hu:=TD.fits_str (hT.fits (t:=t) hd);obtain⟨n,hn,h⟩:=h;injection hn with hn
   subst hn;rw [hp.str_];refine⟨_, .int .i64 s.length,h,?_, .val [_] .int⟩;have gM:(⟨s.toArray⟩:ByteArray).size=s.length:=by simp [ByteArray.size]
   simp [Builtin.len_,ht,run_underlying hu,goInt,gM]
  ·rename_i e es n l hd;obtain⟨hu,hs⟩:=TD.fits_slice (hT.fits (t:=t) hd);obtain⟨A,cap,gr,parts,rfl,_⟩:=hp.sl_;refine⟨_, .int .i64 n,h,?_, .val [_] .int⟩;simp [Builtin.len_,ht,run_underlying hu,goInt]
  ·rename_i e es hd;obtain⟨hu,hs⟩:=TD.fits_slice (hT.fits (t:=t) hd);rw [hp.nils_];refine⟨_, .int .i64 0,h,?_, .val [_] .int⟩;simp [Builtin.len_,ht,run_underlying hu,goInt]
  ·rename_i e es c gr off n hd;obtain⟨hu,hs⟩:=TD.fits_slice (hT.fits (t:=t) hd);rcases hp.ms_ with ⟨rfl,rfl,rfl⟩ | ⟨g,o,cap,hg,rfl,_⟩
   ·refine⟨_, .int .i64 0,h,?_, .val [_] .int⟩;simp [Builtin.len_,ht,run_underlying hu,goInt]
   ·refine⟨_, .int .i64 n,h,?_, .val [_] .int⟩;simp [Builtin.len_,ht,run_underlying hu,goInt]
  ·rename_i n e es hd;obtain⟨hu,hs⟩:=TD.fits_arr (hT.fits (t:=t) hd);refine⟨_, .int .i64 n,h,?_, .val [_] .int⟩;simp [Builtin.len_,ht,run_underlying hu,goInt]
  ·exact h.elim
end
end
section
section
variable {Pg:Program} {T:bD} {w w':World} {P P':cB} {adr aN:gG} {m:FM} {cnt:Nat} {K:MV×Dl→Prop} {u v x y:Value} {r:MV}
theorem qI (n:Nat) (z:MV):repM n z=b₃ n z:=by
 induction n with
 | zero=>rfl
 | succ n ih=>simp [repM,ih,e₀]
theorem yL {f:Nat} (ih: ∀t z,jf T f t=some z→∃cs:List SV,(∀acc,dq T f t acc=some (cs ++ acc))∧(∀w P,dk w P noAdr z (cs.map SV.den))∧z.isVal=true) :
  ∀(fs:List (Nat×TypeId)) (l:List MV),fs.foldr (fun x r=>match r,jf T f x.2 with | some r,some z=>some (z :: r) | _,_=>none) (some [])=some l→
   ∃Oa:List (List SV),Oa.length=l.length∧(∀acc,fs.foldr (fun x r=>match r with | some a=>dq T f x.2 a | none=>none) (some acc)=some (Oa.flatten ++ acc))∧
    ∀w P (j:Nat) m cs,l[j]? =some m→Oa[j]? =some cs→dk w P noAdr m (cs.map SV.den)
 | [],l,h=>by simp at h;subst h;exact⟨[],rfl,fun acc=>rfl,fun w P j m cs h=>by simp at h⟩
 | x :: fs,l,h=>by
  simp only [f₈] at h
  split at h
  ·rename_i r z hr hz
   injection h with h
   subst h
   obtain⟨Oa,h1,h2,h3⟩:=yL ih fs r hr
   obtain⟨cs,h4,h5,_⟩:=ih x.2 z hz
   refine⟨cs :: Oa,by simp [h1],fun acc=>?_,fun w P j m c hj hc=>?_⟩
   ·simp only [f₈,h2,h4,b₀,b₅]
   ·cases j with
    | zero=>simp at hj hc;subst hj;subst hc;exact h5 w P
    | succ j=>exact h3 w P j m c (by simpa using hj) (by simpa using hc)
  ·cases h
theorem qJ (Oa:List (List SV)):Oa.flatten.map SV.den=(Oa.map (List.map SV.den)).flatten:=by
 induction Oa with
 | nil=>rfl
 | cons a l ih=>simp [ih]
theorem gu: ∀(f t:Nat) (z:MV),jf T f t=some z→∃cs:List SV,(∀acc,dq T f t acc=some (cs ++ acc))∧(∀w P,dk w P noAdr z (cs.map SV.den))∧z.isVal=true
 | 0,t,z,h=>by simp [jf] at h
 | f + 1,t,z,h=>by
  simp only [jf] at h
  have one: ∀(c:SV) (z':MV),z'=z→z'.isVal=true→(∀acc,dq T (f + 1) t acc=some (c :: acc))→(∀w P,dk w P noAdr z' [c.den])→∃cs:List SV,(∀acc,dq T (f + 1) t acc=some (cs ++ acc))∧(∀w P,dk w P noAdr z (cs.map SV.den))∧z.isVal=true:=by
   intro c z' e h0 h1 h2
   subst e
   exact⟨[c],h1,h2,h0⟩
  split at h
  ·rename_i k hd;injection h with h;exact one (.val (.int k 0)) _ h rfl (fun acc=>by simp [dq,hd]) (fun w P=> .int)
  ·rename_i hd;injection h with h;exact one (.val (.bool false)) _ h rfl (fun acc=>by simp [dq,hd]) (fun w P=> .bool)
  ·rename_i hd;injection h with h;exact one (.val (.string ⟨#[]⟩)) _ h rfl (fun acc=>by simp [dq,hd]) (fun w P=> .str)
  ·rename_i hd;injection h with h;exact one (.val (.pointer none)) _ h rfl (fun acc=>by simp [dq,hd]) (fun w P=> .nilp)
  ·rename_i hd;injection h with h;exact one (.val .nilIface) _ h rfl (fun acc=>by simp [dq,hd]) (fun w P=> .nili)
  ·rename_i hd;injection h with h;exact one (.val .nilFunc) _ h rfl (fun acc=>by simp [dq,hd]) (fun w P=> .nilf)
  ·rename_i e es hd;injection h with h;exact one (.val (.slice none 0 0)) _ h rfl (fun acc=>by simp [dq,hd]) (fun w P=> .nils)
  ·rename_i n e es hd
   split at h
   ·rename_i z0 SC
    cases hb:(z0.idFree && a₂ z0.size es) with
    | false=>rw [hb] at h;cases h
    | true=>
     rw [hb] at h
     injection h with h
     subst h
     rw [a₁] at hb
     have gM:=a₀ hb.2
     obtain⟨cs,h1,h2,_⟩:=gu f e z0 SC
     refine⟨(b₃ n cs).flatten,fun acc=>?_,fun w P=>?_,rfl⟩
     ·have key: ∀k,(Nat.rec (some acc) (fun _ r=>match r with | some a=>dq T f e a | none=>none) k:Option (List SV))=some ((b₃ k cs).flatten ++ acc):=by
       intro k
       induction k with
       | zero=>rfl
       | succ k ih=>
        show(match (Nat.rec (some acc) (fun _ r=>match r with | some a=>dq T f e a | none=>none) k:Option (List SV)) with | some a=>dq T f e a | none=>none)=_
        rw [ih]
        show dq T f e _=_
        rw [h1,e₀,b₀,b₅]
      simp only [dq,hd]
      exact key n
     ·rw [qJ,h₀,qI]
      refine .arr _ sm sm (fun p hp=>?_) fun j x p hx hp=>?_
      ·rw [(b₆.1 hp).2,(h2 w P).size,gM]
      ·rw [(b₆.1 (a₉ hx)).2,(b₆.1 (a₉ hp)).2]
       exact h2 w P
   ·cases h
  ·rename_i fs sz hd
   split at h
   ·rename_i l hl
    injection h with h
    subst h
    obtain⟨Oa,h1,h2,h3⟩:=yL (fun t z h=>gu f t z h) fs l hl
    refine⟨Oa.flatten,fun acc=>by simp only [dq,hd];exact h2 acc,fun w P=>?_,rfl⟩
    rw [qJ]
    refine .st _ (by simp [h1]) fun j x p hx hp=>?_
    rw [b₁,d₀] at hp
    obtain⟨c,hc,rfl⟩:=hp
    exact h3 w P j x c hx hc
   ·cases h
  ·cases h
end
end
section
section
variable {Pg:Program} {T:bD} {w w':World} {P P':cB} {adr aN:gG} {m:FM} {cnt:Nat} {K:MV×Dl→Prop} {u v x y:Value} {r:MV}
def vF (w:World) (P:cB) (adr:gG):List (Nat×MV)→List (Nat×Value)→Prop
 | [],[] =>True
 | (i,a) :: l,(j,b) :: s=>i=j∧aM w P adr a b∧vF w P adr l s
 | _,_=>False
theorem aM.ofVal (h:aM w P adr r u) (hv:r.isVal=true): ∃cs,dk w P adr r cs∧u=valM r cs:=by
 cases h with
 | val cs h=>exact ⟨cs,h,rfl⟩
 | undef=>cases hv
 | tup=>cases hv
theorem ub {cs:List Value} (h:dk w P adr r cs):jZ (valM r cs)=cs:=by rw [← sO,lW h]
theorem Gz {α:Type}: ∀{l:List α} {n:Nat} (v:α),n < l.length→xZ l n v=some (l.set n v)
 | [],_,_,h=>by simp at h
 | _ :: _,0,_,_=>rfl
 | x :: l,n + 1,v,h=>by
  simp only [xZ,Gz v (show n < l.length by simpa using h)]
  rfl
theorem mh {md:Bool}: ∀(ps:List (Nat×MV)) (pv:List (Nat×Value)) (l:List MV) (eT:List (List Value)) (l':List MV),vF w P adr ps pv→gg l ps=some l'→(∀p∈ps,p.2.isVal=true∧(md=true→p.2.idFree=true))→eT.length=l.length→
  (∀(j:Nat) m p,l[j]? =some m→eT[j]? =some p→dk w P (if md then noAdr else adr) m p)→
  ∃dU,kH eT pv=some dU∧dU.length=l'.length∧l'.length=l.length∧(∀(j:Nat) m p,l'[j]? =some m→dU[j]? =some p→dk w P (if md then noAdr else adr) m p)∧dU.map a₈=eT.map a₈∧qD (eT.map a₈) pv
 | [],[],l,eT,l',_,h,_,hl,hr=>by
  simp [gg] at h;subst h
  exact⟨eT,rfl,hl,rfl,hr,rfl,trivial⟩
 | (i,a) :: ps,(j,b) :: pv,l,eT,l',hp,h,hv,hl,hr=>by
  obtain⟨rfl,Kg,hp⟩:=hp
  simp only [gg] at h
  split at h
  ·rename_i m hm
   rw [bZ] at hm
   cases hb:(a₂ a.size m.size && OT a.isAgg m.isAgg) with
   | false=>rw [hb] at h;cases h
   | true=>
    rw [hb] at h
    rw [a₁] at hb
    have gM:=a₀ hb.1
    obtain⟨cs,pw,rfl⟩:=Kg.ofVal (hv (i,a) sm).1
    obtain⟨q,hq⟩:=dv hl hm
    have Kp:=(hr i m q hm hq).size
    have eS:=(a₄.1 hq).1
    have J9:dk w P (if md then noAdr else adr) a cs:=by
     cases md with
     | false=>exact pw
     | true=>exact pw.free ((hv (i,a) sm).2 rfl)
    have hlen:(eT.set i cs).map a₈=eT.map a₈:=by
     apply d₂
     intro k
     simp only [b₁,e₃]
     split
     ·rename_i e
      subst e
      rw [hq]
      simp [pw.size,gM,Kp]
     ·rfl
    obtain⟨dU,h1,h2,h3,h4,h5,h6⟩:=mh (md:=md) ps pv (setL l i a) (eT.set i cs) l' hp h (fun p hp=>hv p (by simp [hp])) (by rw [setL_eq];simpa using hl) (fun k y z hy hz=>by
     rw [setL_eq] at hy
     rcases cO hy with ⟨rfl,rfl⟩ | ⟨gf,hy⟩
     ·rcases cO hz with ⟨_,rfl⟩ | ⟨gf,_⟩
      ·exact J9
      ·exact absurd rfl gf
     ·rcases cO hz with ⟨rfl,_⟩ | ⟨_,hz⟩
      ·exact absurd rfl gf
      ·exact hr k y z hy hz)
    refine⟨dU,?_,h2,by rw [h3,setL_eq];simp,h4,by rw [h5,hlen],?_⟩
    ·simp only [kH,ub pw,Gz cs eS]
     exact h1
    ·refine⟨?_,by rw [hlen] at h6;exact h6⟩
     rw [vq,ub pw,b₁,hq]
     simp [pw.size,gM,Kp]
  ·cases h
 | [],_ :: _,_,_,_,hp,_,_,_,_=>hp.elim
 | _ :: _,[],_,_,_,hp,_,_,_,_=>hp.elim
theorem uc {α:Type}: ∀{a b:List (List α)},a.map a₈=b.map a₈→a.flatten=b.flatten→a=b
 | [],[],_,_=>rfl
 | x :: a,y :: b,h,hf=>by
  simp only [e₅,List.cons.injEq] at h
  simp only [b₀] at hf
  obtain⟨h1,h2⟩:=h₆ hf h.1
  rw [h1,uc h.2 h2]
 | [],_ :: _,h,_=>by simp at h
 | _ :: _,[],h,_=>by simp at h
theorem sU: ∀{l:List MV} {ns:List Nat},np l ns=true→l.map MV.size=ns
 | [],[],_=>rfl
 | m :: l,n :: ns,h=>by
  have h:(a₂ m.size n && np l ns)=true:=h
  rw [a₁] at h
  rw [e₅,a₀ h.1,sU h.2]
 | [],_ :: _,h=>by cases h
 | _ :: _,[],h=>by cases h
theorem GG {l:List MV} {parts:List (List Value)} {a:gG} (hp:parts.length=l.length) (hr: ∀(j:Nat) m p,l[j]? =some m→parts[j]? =some p→dk w P a m p):parts.map a₈=l.map MV.size:=by
 apply d₂;intro j;simp only [b₁];cases hj:l[j]? with
 | none=>rw [e₆ (by rw [hp];exact List.getElem?_eq_none_iff.1 hj)];rfl
 | some m=>
  obtain⟨q,hq⟩:=dv hp hj;rw [hq];simp [(hr j m q hj hq).size]
theorem sum_flatten {α:Type} (l:List (List α)):l.flatten.length=(l.map a₈).sum:=by
 induction l with
 | nil=>rfl
 | cons a l ih=>simp
theorem It (hT:cZ Pg T) {t:TypeId} {ps:List (Nat×MV)} {pv:List (Nat×Value)} (h:(qa T t ps).runP K) (hp:vF w P adr ps pv) :
  ∃r y,K (r, .none)∧(Instr.build t pv.toArray).run Pg w= .ok y w∧aM w P adr r y:=by
 have core: ∀(l l':List MV) (ns:List Nat) (z:List SV) (parts:List (List Value)) (md:Bool),dq T 9 t [] =some z→z1 T t=some ns→np l ns=true→z.map SV.den=parts.flatten→parts.length=l.length→
   (∀(j:Nat) m p,l[j]? =some m→parts[j]? =some p→dk w P (if md then noAdr else adr) m p)→(∀p∈ps,p.2.isVal=true∧(md=true→p.2.idFree=true))→gg l ps=some l'→
   ∃dU:List (List Value),(Instr.build t pv.toArray).run Pg w= .ok (.agg ⟨dU.flatten⟩) w∧dU.length=l'.length∧l'.length=l.length∧(∀(j:Nat) m p,l'[j]? =some m→dU[j]? =some p→dk w P (if md then noAdr else adr) m p)∧dU.map a₈=ns:=by
  intro l l' ns z parts md hz zS gM hzp jD hr hv pL
  have sD:=(GG jD hr).trans (sU gM)
  obtain⟨dU,h1,h2,h3,h4,h5,h6⟩:=mh ps pv l parts l' hp pL hv jD hr
  have qw:mS ns (z.map SV.den)=parts:=by
   obtain⟨c1,c2⟩:=pY ns (z.map SV.den) (by rw [hzp,sum_flatten,sD])
   exact uc (by rw [c2,sD]) (by rw [c1,hzp])
  have hb:z8 (M:= []) (H:= []) T t pv (fun sv _ _=>sv= .val (.agg (zZ dU).toArray)):=by
   unfold z8
   rw [hz,zS]
   have hl:a₂ z.length ns.sum=true:=by
    have:z.length=ns.sum:=by rw [← c₁ (f:=SV.den),hzp,sum_flatten,sD]
    rw [this];exact Nat.beq_refl _
   show(match a₂ z.length ns.sum,kH (mS ns (z.map SV.den)) pv with | true,some eT=>_ | _,_=>False)
   rw [hl,qw,h1]
   exact⟨by rw [← sD];exact h6,rfl⟩
  obtain⟨sv,k8,rfl⟩:=ED (P:=Pg) hT hb
  refine⟨dU,?_,h2,h3,h4,h5.trans sD⟩
  have:=k8 w ⟨fun i kb h=>by simp [Kv.find] at h,fun i j ki kj h=>by simp [Kv.find] at h,fun p hp=>by simp at hp,fun p hp=>by simp at hp⟩
  rw [this,den_val,Gw]
 unfold qa at h
 split at h
 ·rename_i l ns hz zS
  obtain⟨cs,h1,h2,_⟩:=gu 9 t _ hz
  have tW:=h1 []
  rw [c₉] at tW
  have dA:=h2 w P
  cases hb:(np l ns && ps.all (fun p=>p.2.isVal)) with
  | false=>rw [hb] at h;exact h.elim
  | true=>
   rw [hb] at h
   rw [a₁,b₇] at hb
   simp only [cond_true] at h
   split at h
   ·rename_i l' Bq
    generalize pw:cs.map SV.den=vs at dA
    cases dA with
    | st parts hp hr=>
     obtain⟨dU,a1,a2,a3,a4,a5⟩:=core l l' ns cs parts false tW zS hb.1 pw hp (fun j m p h1 h2=>(hr j m p h1 h2).ofNone) (fun p hp=>⟨hb.2 p hp,fun h=>nomatch h⟩) Bq
     exact⟨_,_,h,a1, .val (m:= .st l') _ (.st dU a2 a4)⟩
   ·exact h.elim
 ·rename_i n es l ns hz zS
  obtain⟨cs,h1,h2,_⟩:=gu 9 t _ hz
  have tW:=h1 []
  rw [c₉] at tW
  have dA:=h2 w P
  cases hb:(np l ns && ps.all (fun p=>p.2.isVal && p.2.idFree)) with
  | false=>rw [hb] at h;exact h.elim
  | true=>
   rw [hb] at h
   rw [a₁,b₇] at hb
   simp only [cond_true] at h
   split at h
   ·rename_i l' Bq
    generalize pw:cs.map SV.den=vs at dA
    cases dA with
    | arr parts xV hp ej hr=>
     obtain⟨dU,a1,a2,a3,a4,a5⟩:=core l l' ns cs parts true tW zS hb.1 pw (hp.trans xV.symm) hr (fun p hp=>by have:=hb.2 p hp;rw [a₁] at this;exact⟨this.1,fun _=>this.2⟩) Bq
     refine⟨_,_,h,a1, .val (m:= .arr n es l') _ (.arr dU (a3.trans xV) (by rw [a2,a3,xV]) (fun q hq=>?_) a4)⟩
     have h7:dU.map a₈=parts.map a₈:=a5.trans ((GG (hp.trans xV.symm) hr).trans (sU hb.1)).symm
     obtain⟨k,hk,rfl⟩:=d₅.1 hq
     have h8:(dU.map a₈)[k]? =some (dU[k].length):=by rw [b₁,a₃ hk];rfl
     rw [h7,b₁] at h8
     have pV:k < parts.length:=by
      rw [show parts.length=(parts.map a₈).length by simp,← h7];simpa using hk
     rw [a₃ pV] at h8
     simp at h8
     rw [← h8,ej _ (h₅ pV)]
   ·exact h.elim
 ·exact h.elim
end
end
section
section
variable {Pg:Program} {T:bD} {w w':World} {P P':cB} {adr aN:gG} {m:FM} {cnt:Nat} {K:MV×Dl→Prop} {u v x y:Value} {r:MV}
theorem db.weak {ex ex':Fp} {h w:World} (k:db ex h w) (hx: ∀b,ex b→ex' b):db ex' h w:=⟨k.os,k.tape,k.output,k.size,fun b hb he=>k.block b hb fun e=>he (hx b e)⟩
theorem bP.new (hI:bf w P adr m) (hn:adr cnt=none) (hm:m cnt=none) (hb:Below w.heap.size w w') {b:MB} {cur:Array Value} {parts:List (List Value)} (hg:w'.heap[w.heap.size]? =some (.cells cur b.ty (0,0))) (jD:parts.length=b.l.length) (hpe: ∀p∈parts,p.length=b.es)
  (hr: ∀(j:Nat) x p,b.l[j]? =some x→parts[j]? =some p→dk w P (if b.row then noAdr else adr) x p) (Om:parts.flatten <+:cur.toList) (hle:b.pe≤b.l.length) (hu:aM w' P (aR adr cnt w.heap.size) r u):bP w P adr m cnt r (.new b) u w':=by
 obtain⟨h1,h2⟩:=hI.new hn hm hb hg jD hpe hr Om hle
 refine⟨P,_,hu,h1,h2,fun c hc=>aL _ _ hc,fun g hg=>?_,(db.of_below hb).weak fun _ e=>e.elim,fun _ _ h=> .inl h⟩
 rw [aI] at hg
 injection hg with hg
 exact .inl (Nat.le_of_eq hg)
theorem KE (hT:cZ Pg T) (hI:bf w P adr m) (hn:adr cnt=none) (hm:m cnt=none) {t:TypeId} {d:TD} {z:MV} (hz:jf T 9 t=some z) (hf:fits d z=true) :
  ∃y w',(Instr.alloc t true (.tuple #[])).run Pg w= .ok y w'∧bP w P adr m cnt (.ptr cnt d.size 0 0 []) (.new ⟨t,d.size,false,0,[z]⟩) y w':=by
 obtain⟨cs,h1,h2,_⟩:=gu 9 t _ hz
 have tW:=h1 []
 rw [c₉] at tW
 obtain⟨v,hv,hc⟩:=hT.zero tW w
 have Gs:v.cells=(cs.map SV.den).toArray:=by rw [← hc]
 have dA:=h2 w P
 refine⟨.pointer (some ⟨w.heap.size,0,none⟩),w.alloc (.cells (cs.map SV.den).toArray t),by simp [Instr.alloc,hv,newVar,newRow,Gs],?_⟩
 refine bP.new hI hn hm (Below.alloc1 w _) (cur:=(cs.map SV.den).toArray) (parts:= [cs.map SV.den]) (heap_alloc_new w _) rfl (fun p hp=>?_) (fun j x p hx hp=>?_) ⟨[],sm⟩ (d₈ _) (.val [_] ?_)
 ·simp at hp;subst hp;rw [dA.size,(jg hf).1]
 ·cases j with
  | zero=>simp at hx hp;subst hx;subst hp;exact dA.ofNone
  | succ j=>simp at hx
 ·have:=dk.ptr (w:=w.alloc (.cells (cs.map SV.den).toArray t)) (P:=P) (adr:=aR adr cnt w.heap.size) (c:=cnt) (es:=d.size) (k:=0) (fo:=0) (path:= []) _ (aI _ _ _)
  simpa using this
theorem Td (hI:bf w P adr m) (hn:adr cnt=none) (hm:m cnt=none) {t:TypeId} {d:TD} {z:MV} (hf:fits d z=true) (hz:aM w P adr z v) :
  ∃y w',(Instr.box t v).run Pg w= .ok y w'∧bP w P adr m cnt (.ptr cnt d.size 0 0 []) (.new ⟨t,d.size,false,0,[z]⟩) y w':=by
 obtain⟨cs,dA,rfl,hl⟩:=nu hz hf
 have Gs:(valM z cs).cells=cs.toArray:=Array.toList_inj.1 (lW dA)
 refine⟨.pointer (some ⟨w.heap.size,0,none⟩),w.alloc (.cells cs.toArray t),by simp [Instr.box,newVar,newRow,Gs],?_⟩
 refine bP.new hI hn hm (Below.alloc1 w _) (cur:=cs.toArray) (parts:= [cs]) (heap_alloc_new w _) rfl (fun p hp=>?_) (fun j x p hx hp=>?_) ⟨[],sm⟩ (d₈ _) (.val [_] ?_)
 ·simp at hp;subst hp;exact hl
 ·cases j with
  | zero=>simp at hx hp;subst hx;subst hp;exact dA
  | succ j=>simp at hx
 ·have:=dk.ptr (w:=w.alloc (.cells cs.toArray t)) (P:=P) (adr:=aR adr cnt w.heap.size) (c:=cnt) (es:=d.size) (k:=0) (fo:=0) (path:= []) _ (aI _ _ _)
  simpa using this
theorem qc (w:World) (c:Array Value) (t:TypeId) (P:cB) {n es:Nat} (gM:c.size=n * es) (hn:n≤maxLen):aM (w.alloc (.cells c t)) P (aR adr cnt w.heap.size) (.ms cnt es 0 n) (.slice (some ⟨w.heap.size,0,none⟩) n n):=
 .val [_] (.ms w.heap.size 0 n (aI _ _ _) (fun _=>by simp) (e₉ _) hn ⟨c,t,heap_alloc_new w _,fun _=>gM⟩)
theorem nv (hT:cZ Pg T) (hI:bf w P adr m) (hn:adr cnt=none) (hm:m cnt=none) {t:TypeId} {n:Nat} {ps:List (Nat×MV)} {pv:List (Nat×Value)} (h:(eB T cnt t n ps).runP K) (hp:vF w P adr ps pv) :
  ∃r δ y w',K (r,δ)∧(Instr.buildSlice t n pv.toArray).run Pg w= .ok y w'∧bP w P adr m cnt r δ y w':=by
 unfold eB at h
 split at h
 ·rename_i e es hd
  obtain⟨hu,hs⟩:=TD.fits_slice (hT.fits hd)
  split at h
  ·split at h
   ·have hpv:pv= [] :=by
     cases pv with
     | nil=>rfl
     | cons a l=>exact hp.elim
    subst hpv
    refine⟨_,_, .slice (some ⟨w.heap.size,0,none⟩) 0 0,w.alloc (.cells #[] e),h,?_,?_⟩
    ·simp only [Instr.buildSlice,Sem.run_bind,run_underlying hu,Result.andThen_ok,bG hs,newRow]
     simp [Instr.fill]
     rw [show Array.map (fun _:Nat=>(default:Value)) (Array.range 0)= #[] from Array.eq_empty_of_size_eq_zero sm]
    ·exact bP.new hI hn hm (Below.alloc1 w _) (cur:= #[]) (parts:= []) (heap_alloc_new w _) rfl (fun p hp=>by simp at hp) (fun j x p hx hp=>by simp at hp) ⟨[],rfl⟩ (d₈ _) (qc w _ _ _ sm (by decide))
   ·exact h.elim
  ·rename_i n
   split at h
   ·rename_i z hz
    cases hb:(a₂ z.size es && f₃ 0 es && d₃ ((n + 1) * es) 16777216 && z.idFree && ps.all (fun p=>p.2.isVal)) with
    | false=>rw [hb] at h;exact h.elim
    | true=>
     rw [hb] at h
     simp only [a₁,b₇] at hb
     obtain⟨⟨⟨⟨gM,ej⟩,hle⟩,hzf⟩,hv⟩:=hb
     have gM:=a₀ gM
     have ej:0 < es:=by simpa [g₁] using ej
     have hle:=c₇ hle
     simp only [cond_true] at h
     split at h
     ·rename_i l' Bq
      obtain⟨cs,h1,h2,_⟩:=gu 9 e _ hz
      have tW:=h1 []
      rw [c₉] at tW
      obtain⟨zv,Ey,Vb⟩:=hT.zero tW w
      have mR:zv.cells=(cs.map SV.den).toArray:=by rw [← Vb]
      have dA:=h2 w P
      have sG:cs.length=es:=by rw [← c₁ (f:=SV.den),dA.size,gM]
      have Ke:(repM (n + 1) z).length=n + 1:=by rw [qI];simp
      obtain⟨dU,a1,a2,a3,a4,a5,a6⟩:=mh (md:=ps.all (fun p=>p.2.idFree)) ps pv (repM (n + 1) z) (b₃ (n + 1) (cs.map SV.den)) l' hp Bq (fun p hp=>⟨hv p hp,fun h=>b₇.1 h p hp⟩) (by rw [Ke];simp) (fun j x p hx hp=>by
       rw [qI] at hx
       rw [(b₆.1 (a₉ hx)).2,(b₆.1 (a₉ hp)).2]
       split
       ·exact dA
       ·exact dA.ofNone)
      have sD:(b₃ (n + 1) (cs.map SV.den)).map a₈=b₃ (n + 1) es:=by rw [h₀,c₁,sG]
      have jD: ∀i k,(b₃ (n + 1) es)[i]? =some k→(fun i=>some (i * es,es):Nat→Option (Nat×Nat)) i=some (((b₃ (n + 1) es).take i).sum,k):=by
       intro i k hk
       rw [f₇] at hk
       split at hk
       ·injection hk with hk
        subst hk
        rw [g₃,f₉,b₉ om]
       ·cases hk
      have Xz:=sP jD pv _ dU sD a1 (by rw [sD] at a6;exact a6)
      have fF: ∀p∈dU,p.length=es:=by
       intro p hp
       have:p.length∈dU.map a₈:=f₆.2 ⟨p,hp,rfl⟩
       rw [a5,sD] at this
       exact(b₆.1 this).2
      have YH:dU.length=n + 1:=by rw [a2,a3,Ke]
      have ZZ:=vx (n:=n + 1) (z:=cs) (zc:=zv.cells) mR sG ej
      have NU:(uG (n + 1) cs).map SV.den=(b₃ (n + 1) (cs.map SV.den)).flatten:=by
       have: ∀k,(uG k cs).map SV.den=(b₃ k (cs.map SV.den)).flatten:=by
        intro k
        induction k with
        | zero=>rfl
        | succ k ih=>rw [uG,h₇,ih,e₀,b₀]
       exact this _
      refine⟨_,_, .slice (some ⟨w.heap.size,0,none⟩) (n + 1) (n + 1),w.alloc (.cells dU.flatten.toArray e),h,?_,?_⟩
      ·have gf: ¬ ((n + 1) * es=0):=by have:=Nat.mul_pos (show 0 < n + 1 by omega) ej;omega
       have hng: ¬ ((n + 1) * es > 2 ^ 24):=om
       simp only [Instr.buildSlice,Sem.run_bind,run_underlying hu,Result.andThen_ok,bG hs,if_neg gf,if_neg hng,Ey,Sem.run_pure,ZZ,NU,Xz,newRow]
       simp
      ·refine bP.new hI hn hm (Below.alloc1 w _) (cur:=dU.flatten.toArray) (parts:=dU) (heap_alloc_new w _) a2 fF a4 ⟨[],sm⟩ (d₈ _) (qc w _ _ _ ?_ ?_)
       ·rw [c₀,aU fF,YH]
       ·have:n + 1≤(n + 1) * es:=Nat.le_mul_of_pos_right _ ej
        unfold maxLen
        omega
     ·exact h.elim
   ·exact h.elim
 ·exact h.elim
theorem yg (hT:cZ Pg T) (hI:bf w P adr m) (hn:adr cnt=none) (hm:m cnt=none) {t:TypeId} {p q:MV} (h:(gZ Pg T cnt t p q).runP K) (hp:aM w P adr p u) (hq:aM w P adr q v) :
  ∃r δ y w',K (r,δ)∧(Instr.makeSlice t u v).run Pg w= .ok y w'∧bP w P adr m cnt r δ y w':=by
 unfold gZ at h
 split at h
 ·rename_i e es k0 n k1 n' hd
  split at h
  ·rename_i z hz
   cases hb:(a₂ z.size es && f₃ 0 es && z.idFree) with
   | false=>rw [hb] at h;exact h.elim
   | true=>
    rw [hb] at h
    simp only [a₁] at hb
    obtain⟨⟨gM,ej⟩,hzf⟩:=hb
    have gM:=a₀ gM
    obtain⟨rfl,k,hk,Eh,RP,hbb,h⟩:=h
    obtain⟨xW,pV⟩:=qH hk
    subst xW
    rw [hp.int_,hq.int_]
    obtain⟨cs,h1,h2,_⟩:=gu 9 e _ hz
    have tW:=h1 []
    rw [c₉] at tW
    have dA:=h2 w P
    have sG:cs.length=es:=by rw [← c₁ (f:=SV.den),dA.size,gM]
    obtain⟨zv,Ey,Vb⟩:=hT.zero tW w
    have mR:zv.cells=(cs.map SV.den).toArray:=by rw [← Vb]
    have ej:0 < es:=by simpa [g₁] using ej
    obtain⟨hu,hs⟩:=TD.fits_slice (hT.fits hd)
    cases hi:Pg.info? e with
    | none=>simp [hi] at RP
    | some it=>
     have R9:it.bytes=Eh:=by simpa [hi] using RP
     have Bw:it.size=es:=by simpa [gF,hi] using hs
     have hit:it.zero=some zv:=by
      cases hv:it.zero with
      | none=>simp [zeroValue,typeInfo,hi,hv,unsupported] at Ey
      | some v=>simp [zeroValue,typeInfo,hi,hv] at Ey;rw [Ey]
     have Uw:(it.bytes:Int) * (k:Int)≤281474976710656:=by
      rw [R9,← Int.natCast_mul,Nat.mul_comm];omega
     have hr:=run_make (P:=Pg) w t e it zv hu hi hit k0 k1 (k:Int) (k:Int) om (Int.le_refl _) Uw om
     have qv:=vx (n:=k) mR sG ej
     have NU: ∀k,(uG k cs).map SV.den=(b₃ k (cs.map SV.den)).flatten:=by
      intro k
      induction k with
      | zero=>rfl
      | succ k ih=>rw [uG,h₇,ih,e₀,b₀]
     have fF: ∀p∈b₃ k (cs.map SV.den),p.length=es:=fun p hp=>by rw [(b₆.1 hp).2,c₁,sG]
     refine⟨_,_, .slice (some ⟨w.heap.size,0,none⟩) k k,w.alloc (.cells (b₃ k (cs.map SV.den)).flatten.toArray e),h,?_,?_⟩
     ·rw [hr]
      simp only [madeCells,d₁,Bw,mR] at qv ⊢
      rw [qv,NU]
     ·refine bP.new hI hn hm (Below.alloc1 w _) (cur:=(b₃ k (cs.map SV.den)).flatten.toArray) (parts:=b₃ k (cs.map SV.den)) (heap_alloc_new w _) (by show _=(repM k z).length;rw [qI];simp) fF (fun j x p hx hp=>?_) ⟨[],sm⟩ (d₈ _) (qc w _ _ _ ?_ ?_)
      ·have hx:(repM k z)[j]? =some x:=hx
       rw [qI] at hx
       rw [(b₆.1 (a₉ hx)).2,(b₆.1 (a₉ hp)).2]
       exact dA
      ·rw [c₀,aU fF,List.length_replicate]
      ·unfold maxLen;omega
  ·exact h.elim
 ·exact h.elim
end
end
section
section
variable {Pg:Program} {T:bD} {w w':World} {P P':cB} {adr aN:gG} {m:FM} {cnt:Nat} {K:MV×Dl→Prop} {u v x y:Value} {r:MV}
theorem mj: ∀{l:List MV} {s:List UInt8} {parts:List (List Value)} {a:gG},lY l=some s→parts.length=l.length→(∀(j:Nat) m p,l[j]? =some m→parts[j]? =some p→dk w P a m p)→s.length=l.length∧parts=s.map fun b=> [Value.int .u8 (b.toNat:Int)]
 | [],s,parts,a,h,hp,_=>by
  simp [lY] at h;subst h
  exact⟨rfl,a₆ (by simpa using hp)⟩
 | m :: l,s,[],a,h,hp,_=>by simp at hp
 | m :: l,s,p :: parts,a,h,hp,hr=>by
  unfold lY at h
  split at h
  ·rename_i h0;cases h0
  ·rename_i n l' he
   injection he with e1 e2
   subst e1;subst e2
   split at h
   ·rename_i hn
    split at h
    ·rename_i r EA
     injection h with h
     subst h
     obtain⟨h1,h2⟩:=mj EA (by simpa using hp) fun j m p h1 h2=>hr (j + 1) m p h1 h2
     have h3:=hr 0 _ p rfl rfl
     refine⟨by simp [h1],?_⟩
     rw [h2,e₅]
     congr 1
     cases h3
     have:(UInt8.ofNat n.toNat).toNat=n.toNat:=by rw [UInt8.toNat_ofNat',h₄ om]
     rw [this]
     congr 2
     omega
    ·cases h
   ·cases h
  ·cases h
theorem flat_bytes (s:List UInt8):(s.map fun b=> [Value.int .u8 (b.toNat:Int)]).flatten=s.map fun b=>Value.int .u8 (b.toNat:Int):=by
 induction s with
 | nil=>rfl
 | cons b s ih=>simp [ih]
theorem KF (hT:cZ Pg T) (hI:bf w P adr m) (hn:adr cnt=none) {src dst:TypeId} {p:MV} (h:(nq T m src dst p).runP K) (hp:aM w P adr p u) :
  ∃r y w',K (r, .none)∧(convert src dst u).run Pg w= .ok y w'∧bP w P adr m cnt r .none y w':=by
 unfold nq at h
 split at h
 ·rename_i d0 k k' n hd0 hd
  obtain⟨r,hr,h⟩:=h
  injection hr with hr
  subst hr
  obtain⟨ds,VL⟩:=TD.fits_some (hT.fits hd0)
  rw [hp.int_]
  refine⟨_, .int k (k.wrap n),w,h,?_,bP.pure hI hn (.val [_] .int)⟩
  simp [convert,run_underlying VL,run_underlying (TD.fits_int (hT.fits hd)),Conv.intToInt]
 ·rename_i e es n l hd0 hd
  split at h
  ·rename_i Ex
   obtain⟨s,hs,h⟩:=h
   have hu:=(TD.fits_slice (hT.fits hd0)).1
   have Oh:=TD.fits_str (hT.fits hd)
   have NV:=TD.fits_int (hT.fits Ex)
   obtain⟨A,cap,gr,parts,rfl,h1,h2,h3,h4,h5,h6,h7⟩:=hp.sl_
   obtain⟨h8,h9⟩:=mj hs (h2.trans h1.symm) h7
   refine⟨_, .string ⟨s.toArray⟩,w,h,?_,bP.pure hI hn (.val [_] .str)⟩
   cases A with
   | none=>
    obtain⟨rfl,rfl⟩:=h4 rfl
    have:s= [] :=a₆ om
    subst this
    simp [convert,run_underlying hu,run_underlying Oh,run_underlying NV,Conv.bytesToString]
    rfl
   | some a=>
    have xO:s.length=n:=om
    subst xO
    refine run_convert_bytes_back w src dst e a cap s hu NV Oh fun j hj=>?_
    obtain⟨b,o,hA,hc⟩:=h6 om
    injection hA with hA
    subst hA
    rw [Addr.add_mid]
    refine(hc j _ ?_).1
    rw [h9,flat_bytes,b₁,a₃ hj];rfl
  ·exact h.elim
 ·rename_i e es hd0 hd
  split at h
  ·rename_i Ex
   have hu:=(TD.fits_slice (hT.fits hd0)).1
   have Oh:=TD.fits_str (hT.fits hd)
   have NV:=TD.fits_int (hT.fits Ex)
   rw [hp.nils_]
   refine⟨_, .string ⟨#[]⟩,w,h,?_,bP.pure hI hn (.val [_] .str)⟩
   simp [convert,run_underlying hu,run_underlying Oh,run_underlying NV,Conv.bytesToString]
   rfl
  ·exact h.elim
 ·rename_i e es c gr off n hd0 hd
  split at h
  ·rename_i b Ex hb
   cases he:(a₂ gr 1 && a₂ b.es 1) with
   | false=>rw [he] at h;exact h.elim
   | true=>
    rw [he] at h
    rw [a₁] at he
    have xS:=a₀ he.1
    have xU:=a₀ he.2
    subst xS
    obtain⟨hle,s,hs,h⟩:=h
    have hu:=(TD.fits_slice (hT.fits hd0)).1
    have Oh:=TD.fits_str (hT.fits hd)
    have NV:=TD.fits_int (hT.fits Ex)
    refine⟨_, .string ⟨s.toArray⟩,w,h,?_,bP.pure hI hn (.val [_] .str)⟩
    have hlen:(cutL b.l off (off + n)).length=n:=by unfold cutL;rw [a₇,c₂];omega
    rcases hp.ms_ with ⟨rfl,rfl,rfl⟩ | ⟨g,o,cap,hg,rfl,ho,h5,h6,h7⟩
    ·have pW:cutL b.l 0 (0 + 0)= [] :=a₆ (by rw [hlen])
     rw [pW] at hs
     simp [lY] at hs
     subst hs
     simp [convert,run_underlying hu,run_underlying Oh,run_underlying NV,Conv.bytesToString]
     rfl
    ·rcases hI.blk c b hb with h1 | ⟨g',h1,h2⟩
     ·rw [hg] at h1;cases h1.2.2.1
     ·rw [hg] at h1
      injection h1 with h1
      subst h1
      obtain⟨cur,parts,h3,h4,h8,h9,Gb⟩:=h2.ofE om
      have jD:((parts.drop off).take n).length=(cutL b.l off (off + n)).length:=by rw [hlen,a₇,c₂];omega
      obtain⟨h11,Yf⟩:=mj (a:=if b.row then noAdr else adr) hs jD fun j x p hx hp=>by
       obtain⟨hx,hj⟩:=ka hx
       rw [c₄] at hp
       split at hp
       ·rw [c₅] at hp;exact h9 _ x p hx hp
       ·cases hp
      have xO:s.length=n:=om
      subst xO
      refine run_convert_bytes_back w src dst e ⟨g,o,none⟩ cap s hu NV Oh fun j hj=>?_
      have ho:=ho (.inl om)
      subst ho
      rw [Addr.add_mid,cell_of_row w g _ cur b.ty (0,0) h3]
      have xN:parts.flatten[off * 1 + j]? =some (.int .u8 (s[j].toNat:Int)):=by
       refine eu (es:=1) (fun p hp=>by rw [h8 p hp,xU]) off s.length ?_ om
       rw [Yf,flat_bytes,b₁,a₃ hj];rfl
      have:=eH Gb xN
      simpa using this
  ·exact h.elim
 ·rename_i e es s hd0 hd
  split at h
  ·rename_i Ex
   obtain⟨hle,l,hl,n,OJ,h⟩:=h
   injection hl with hl
   injection OJ with OJ
   subst hl;subst OJ
   have hu:=(TD.fits_slice (hT.fits hd)).1
   have Oh:=TD.fits_str (hT.fits hd0)
   have NV:=TD.fits_int (hT.fits Ex)
   rw [hp.str_]
   have gM:(⟨s.toArray⟩:ByteArray).size=s.length:=by simp [ByteArray.size]
   have k8:=run_bytes_of_string (P:=Pg) w src dst e ⟨s.toArray⟩ Oh hu NV
   rw [gM] at k8
   have Ko:=grownCap_ge w s.length 0 e
   generalize grownCap w s.length 0 e=cap at *
   have hb:Below w.heap.size w (w.drew.alloc (.cells (bytesRow ⟨s.toArray⟩ cap) e ((bytesRow ⟨s.toArray⟩ cap).size,(bytesRow ⟨s.toArray⟩ cap).size + 1))):=by
    have:=Below.alloc1 w.drew (.cells (bytesRow ⟨s.toArray⟩ cap) e ((bytesRow ⟨s.toArray⟩ cap).size,(bytesRow ⟨s.toArray⟩ cap).size + 1))
    exact⟨this.os,this.tape,this.output,this.size,this.block⟩
   have xQ:(w.drew.alloc (.cells (bytesRow ⟨s.toArray⟩ cap) e ((bytesRow ⟨s.toArray⟩ cap).size,(bytesRow ⟨s.toArray⟩ cap).size + 1))).heap[w.heap.size]? =some (.cells (bytesRow ⟨s.toArray⟩ cap) e ((bytesRow ⟨s.toArray⟩ cap).size,(bytesRow ⟨s.toArray⟩ cap).size + 1)):=heap_alloc_new w.drew _
   generalize w.drew.alloc (.cells (bytesRow ⟨s.toArray⟩ cap) e ((bytesRow ⟨s.toArray⟩ cap).size,(bytesRow ⟨s.toArray⟩ cap).size + 1))=w1 at *
   refine⟨_,_,w1,h,k8,jK w w1 P,adr,?_,hI.below hb,bJ.below hI.prot hb,fun _ _=>rfl,fun g hg=>(by rw [hn] at hg;cases hg),(db.of_below hb).weak fun _ e=>e.elim,fun b o hp=>?_⟩
   ·have eS:w.heap.size < w1.heap.size:=(Array.getElem?_eq_some_iff.1 xQ).1
    refine .val [_] (.sl (some ⟨w.heap.size,0,none⟩) cap 1 (s.map fun b=> [Value.int .u8 (b.toNat:Int)]) (by simp [u8s]) sm (fun p hp=>?_) (fun h=>nomatch h) Ko (fun _=>⟨w.heap.size,0,rfl,fun j x hx=>⟨?_, .inr ⟨e₉ _,eS⟩⟩⟩) fun j x p hx hp=>?_)
    ·obtain⟨b,_,rfl⟩:=f₆.1 hp;rfl
    ·rw [cell_of_row w1 w.heap.size _ _ e _ xQ,h₁]
     rw [flat_bytes] at hx
     have hj:=(a₄.1 hx).1
     simp only [c₁] at hj
     rw [b₁,a₃ hj] at hx
     injection hx with hx
     unfold bytesRow
     rw [Array.getElem?_append_left (by simpa using hj)]
     simp [hj,hx]
    ·simp only [u8s,b₁,d₀] at hx hp
     obtain⟨b,hb,rfl⟩:=hx
     obtain⟨b',px,rfl⟩:=hp
     rw [hb] at px
     injection px with px
     subst px
     exact .int
   ·rcases hp with hp | hp
    ·exact .inl hp
    ·exact .inr (.inl hp.1)
  ·exact h.elim
 ·exact h.elim
end
end
section
section
variable {Pg:Program} {T:bD} {w w':World} {P P':cB} {adr aN:gG} {m:FM} {cnt:Nat} {K:MV×Dl→Prop} {u v x y:Value} {r:MV}
theorem OX {op:BinOp} {k:IntKind} {a b:Int} (h:((Ky op k a b).bind pureA).runP K):z6 op k a b fun v=> ∃r,K (r, .none)∧aM w P adr r v:=by
 cases op <;> simp only [Ky,val,bz.bind,bz.ask,bz.prf,bz.ret,pureA,bz.runP] at h <;> simp only [z6]
 case quo=>obtain ⟨h0,r,hr,h⟩:=h;injection hr with hr;exact⟨h0,r,hr,_,h, .val [_] .int⟩
 case rem=>obtain ⟨h0,r,hr,h⟩:=h;injection hr with hr;exact⟨h0,r,hr,_,h, .val [_] .int⟩
 case shl=>obtain ⟨h0,r,hr,h⟩:=h;injection hr with hr;exact⟨h0,r,hr,_,h, .val [_] .int⟩
 case shr=>obtain ⟨h0,r,hr,h⟩:=h;injection hr with hr;exact⟨h0,r,hr,_,h, .val [_] .int⟩
 all_goals first
  | (obtain⟨r,hr,h⟩:=h;injection hr with hr;exact⟨r,hr,_,h, .val [_] .int⟩)
  | exact⟨_,h, .val [_] .bool⟩
theorem ba_list (s:List UInt8):(⟨s.toArray⟩:ByteArray).toList=s:=by rw [ByteArray.toList_eq]
theorem ba_size (s:List UInt8):(⟨s.toArray⟩:ByteArray).size=s.length:=by simp [ByteArray.size]
theorem Te (s t:List UInt8):(⟨s.toArray⟩ ++ ⟨t.toArray⟩:ByteArray)=⟨(s ++ t).toArray⟩:=by
 apply ByteArray.ext;simp [ByteArray.data_append]
theorem OY {op:BinOp} {a b:List UInt8} (h:((OU op a b).bind pureA).runP K):z7 op ⟨a.toArray⟩ ⟨b.toArray⟩ fun v=> ∃r,K (r, .none)∧aM w P adr r v:=by
 cases op <;> simp only [OU,val,bz.bind,bz.ask,bz.prf,bz.ret,bz.bad,pureA,bz.runP] at h <;> simp only [z7,ba_list,ba_size,Te]
 case add=>obtain ⟨h0,r,hr,h⟩:=h;injection hr with hr;subst hr;exact⟨h0,_,h, .val [_] .str⟩
 all_goals first
  | exact⟨_,h, .val [_] .bool⟩
  | exact h.elim
theorem OZ {op:BinOp} {a b:Bool} (h:((Kz op a b).bind pureA).runP K):uS op a b fun v=> ∃r,K (r, .none)∧aM w P adr r v:=by
 cases op <;> simp only [Kz,bz.bind,bz.ret,bz.bad,pureA,bz.runP] at h <;> simp only [uS]
 all_goals first
  | exact⟨_,h, .val [_] .bool⟩
  | exact h.elim
mutual
theorem oO: ∀{f t:Nat} {m:MV} {cs:List Value} {adr:gG},eO T f t m=true→dk w P adr m cs→kK T f t cs
 | 0,_,_,_,_,h,_=>by simp [eO] at h
 | f + 1,t,m,cs,adr,h,hr=>by
  unfold eO at h
  unfold kK
  split at h
  ·rename_i k j n hd
   rw [hd]
   have:=Gu h
   subst this
   cases hr
   exact⟨n,rfl⟩
  ·rename_i hd;rw [hd];cases hr;exact⟨_,rfl⟩
  ·rename_i hd;rw [hd];cases hr;exact⟨_,rfl⟩
  ·rename_i n e es n' gr l hd
   rw [hd]
   simp only [a₁] at h
   obtain⟨⟨h1,h2⟩,h3⟩:=h
   have h1:=a₀ h1
   have h2:=a₀ h2
   subst h1;subst h2
   cases hr with
   | arr parts hl hp ej hr=>
    refine⟨by rw [aU ej,hp],fun i hi=>?_⟩
    have hx:=a₃ (l:=l) (i:=i) om
    obtain⟨q,hq⟩:=dv (hp.trans hl.symm) hx
    have Kp:=ej q (a₉ hq)
    have ib:(parts.take i).flatten.length=i * es:=by
     rw [aU (es:=es) fun x hx=>ej x (b₄ hx),a₇,b₉ om]
    have:(parts.flatten.drop (i * es)).take es=q:=by
     rw [cK hq,b₅,← ib,e₈,← Kp,e₂]
    rw [this]
    exact oO (b₇.1 h3 _ (h₅ om)) (hr i _ q hx hq)
  ·rename_i fs sz l hd
   rw [hd]
   cases hr with
   | st parts hp hr=>
    have:=vG h hp hr [] rfl
    rw [List.nil_append] at this
    exact this
  ·cases h
theorem vG: ∀{f:Nat} {fs:List (Nat×TypeId)} {o:Nat} {l:List MV} {sz:Nat} {parts:List (List Value)} {adr:gG},confMs T f fs o l sz=true→parts.length=l.length→(∀(j:Nat) m p,l[j]? =some m→parts[j]? =some p→dk w P adr m p)→
  ∀(pre:List Value),pre.length=o→(pre ++ parts.flatten).length=sz∧fs.foldr (fun x K=>(match bD.find T x.2 with | some d=>kK T f x.2 (((pre ++ parts.flatten).drop x.1).take d.size) | none=>False)∧K) True
 | f,[],o,[],sz,parts,adr,h,hp,hr,pre,ib=>by
  have h:=a₀ (show a₂ o sz=true from by simpa [confMs] using h)
  have:parts= [] :=a₆ (by simpa using hp)
  subst this
  exact⟨by simp [ib,h],trivial⟩
 | f,(o',t) :: fs,o,m :: l,sz,[],adr,h,hp,hr,pre,ib=>by simp at hp
 | f,(o',t) :: fs,o,m :: l,sz,p :: parts,adr,h,hp,hr,pre,ib=>by
  rw [confMs,a₁] at h
  obtain⟨h1,h2⟩:=h
  have h1:=a₀ h1
  subst h1
  split at h2
  ·rename_i d hd
   simp only [a₁] at h2
   obtain⟨⟨h3,h4⟩,h5⟩:=h2
   have h3:=a₀ h3
   have dA:=hr 0 m p rfl rfl
   have jD:p.length=d.size:=by rw [dA.size,h3]
   have ih:=vG h5 (parts:=parts) (by simpa using hp) (fun j m p h1 h2=>hr (j + 1) m p h1 h2) (pre ++ p) (by rw [a₅,ib,jD])
   have e:pre ++ (p :: parts).flatten=pre ++ p ++ parts.flatten:=sm
   rw [e]
   refine⟨ih.1,?_,ih.2⟩
   simp only [hd]
   have:((pre ++ p ++ parts.flatten).drop o).take d.size=p:=by
    rw [b₅,← ib,e₈,← jD,e₂]
   rw [this]
   exact oO h4 dA
  ·cases h2
 | f,[],o,_ :: _,_,_,_,h,_,_,_,_=>by simp [confMs] at h
 | f,_ :: _,o,[],_,_,_,h,_,_,_,_=>by simp [confMs] at h
end
mutual
theorem GH: ∀{a b:MV} {t:Bool} {xs ys:List Value} {adr aN:gG},EF a b=some t→dk w P adr a xs→dk w P aN b ys→xs.length=ys.length∧(t=true↔xs=ys)
 | a,b,t,xs,ys,adr,aN,h,hx,hy=>by
  unfold EF at h
  split at h
  ·rename_i k m j n
   split at h
   ·rename_i hk
    injection h with h
    subst h
    have hk:=ot hk
    subst hk
    cases hx;cases hy
    simp
   ·cases h
  ·injection h with h
   subst h
   cases hx;cases hy
   simp
  ·injection h with h
   subst h
   cases hx;cases hy
   rename_i s u
   simp
  ·cases hx with
   | st parts hp hr=>cases hy with
    | st parts' Kq EA=>exact vH h hp Kq hr EA
  ·rename_i n es l n' gr l'
   cases hb:(a₂ n n' && a₂ es gr) with
   | false=>rw [hb] at h;cases h
   | true=>
    rw [hb] at h
    cases hx with
    | arr parts hl hp ej hr=>cases hy with
     | arr parts' Bq Kq hes' EA=>exact vH h (hp.trans hl.symm) (Kq.trans Bq.symm) hr EA
  ·cases h
theorem vH: ∀{l l':List MV} {t:Bool} {parts parts':List (List Value)} {adr aN:gG},sS l l'=some t→parts.length=l.length→parts'.length=l'.length→(∀(j:Nat) m p,l[j]? =some m→parts[j]? =some p→dk w P adr m p)→(∀(j:Nat) m p,l'[j]? =some m→parts'[j]? =some p→dk w P aN m p)→
  parts.flatten.length=parts'.flatten.length∧(t=true↔parts.flatten=parts'.flatten)
 | [],[],t,parts,parts',adr,aN,h,hp,Kq,_,_=>by
  have h1:parts= [] :=a₆ (by simpa using hp)
  have h2:parts'= [] :=a₆ (by simpa using Kq)
  subst h1;subst h2
  simp [sS] at h
  subst h
  simp
 | a :: l,b :: l',t,p :: parts,q :: parts',adr,aN,h,hp,Kq,hr,EA=>by
  rw [sS] at h
  split at h
  ·rename_i x y hx hy
   injection h with h
   subst h
   obtain⟨h1,h2⟩:=GH hx (hr 0 a p rfl rfl) (EA 0 b q rfl rfl)
   obtain⟨h3,h4⟩:=vH hy (parts:=parts) (parts':=parts') (by simpa using hp) (by simpa using Kq) (fun j m p h1 h2=>hr (j + 1) m p h1 h2) (fun j m p h1 h2=>EA (j + 1) m p h1 h2)
   refine⟨by simp only [b₀,a₅];omega,?_⟩
   rw [a₁,h2,h4,b₀,b₀]
   exact⟨fun ⟨e1,e2⟩=>by rw [e1,e2],fun e=>h₆ e h1⟩
  ·cases h
 | [],_ :: _,t,_,_,_,_,h,_,_,_,_=>by simp [sS] at h
 | _ :: _,[],t,_,_,_,_,h,_,_,_,_=>by simp [sS] at h
 | _ :: _,_ :: _,t,[],_,_,_,h,hp,_,_,_=>by simp at hp
 | _ :: _,_ :: _,t,_ :: _,[],_,_,h,_,hp,_,_=>by simp at hp
end
end
end
section
section
variable {Pg:Program} {T:bD} {w w':World} {P P':cB} {adr aN:gG} {m:FM} {cnt:Nat} {K:MV×Dl→Prop} {u v x y:Value} {r:MV}
theorem Af {k:Nat} {p:MV} {b:Bool} (h:vA k p=some b) (hp:aM w P adr p u) :
  (k=0∧((u= .pointer none∧b=true)∨∃a,u= .pointer (some a)∧b=false))∨(k=1∧((u= .slice none 0 0∧b=true)∨∃a n c,u= .slice (some a) n c∧b=false))∨(k=2∧((u= .nilIface∧b=true)∨∃t z,u= .iface t z∧b=false)):=by
 unfold vA at h
 split at h <;> first | (cases h;done) | (injection h with h;subst h)
 ·exact .inl ⟨rfl, .inl ⟨hp.nilp_,rfl⟩⟩
 ·obtain⟨g,_,e⟩:=hp.ptr_;exact .inl ⟨rfl, .inr ⟨_,e,rfl⟩⟩
 ·exact .inl ⟨rfl, .inr ⟨_,hp.gp_,rfl⟩⟩
 ·obtain⟨b,o,vs,e,_⟩:=hp.ep_;exact .inl ⟨rfl, .inr ⟨_,e,rfl⟩⟩
 ·exact .inr (.inl ⟨rfl, .inl ⟨hp.nils_,rfl⟩⟩)
 ·obtain⟨A,cap,es,parts,e,_,_,_,h4,_⟩:=hp.sl_
  cases A with
  | none=>exact absurd (h4 rfl).1 om
  | some a=>exact .inr (.inl ⟨rfl, .inr ⟨_,_,_,e,rfl⟩⟩)
 ·exact .inr (.inr ⟨rfl, .inl ⟨hp.nili_,rfl⟩⟩)
 ·cases hp with | val cs h=>cases h with | ifc cs h=>exact .inr (.inr ⟨rfl, .inr ⟨_,_,rfl,rfl⟩⟩)
theorem Tf (hT:cZ Pg T) {op:BinOp} {t:TypeId} {xo yo:Operand} {p q:MV} (h:(S9 Pg T op t p q).runP K) (hp:aM w P adr p u) (hq:aM w P adr q v) :
  ∃r y,K (r, .none)∧(do eqGuard op t xo yo u v;binOp op t u v:Sem Value).run Pg w= .ok y w∧aM w P adr r y:=by
 unfold S9 at h
 split at h
 ·rename_i d hd
  cases hb:(d.agg && fits d p && fits d q) with
  | false=>rw [hb] at h;exact h.elim
  | true=>
   rw [hb] at h
   simp only [a₁] at hb
   obtain⟨⟨ha,Z5⟩,hfq⟩:=hb
   obtain⟨⟨he,H9,Bu⟩,b,X4,h⟩:=h
   unfold Vr at he
   simp only [a₁,h₂] at he
   obtain⟨cs,pw,rfl⟩:=hp.agg_ (by rw [(jg Z5).2.1,ha])
   obtain⟨Zg,J9,rfl⟩:=hq.agg_ (by rw [(jg hfq).2.1,ha])
   obtain⟨b',r1,r2,r3⟩:=BP (P:=Pg) (T:=T) hT hd ha he.1 he.2 xo yo (oO H9 pw) (oO Bu J9)
   have hbb:b'=b:=by
    have:=(GH X4 pw J9).2
    rw [Bool.eq_iff_iff,r3,this]
   subst hbb
   cases op <;> first | exact h.elim | skip
   ·exact⟨_,_,h,r1 w, .val [_] .bool⟩
   ·exact⟨_,_,h,r2 w, .val [_] .bool⟩
 ·exact h.elim
theorem O0 (hT:cZ Pg T) {op:BinOp} {t:TypeId} {xo yo:Operand} {p q:MV} (h:(Ij Pg T op t yo p q).runP K) (hp:aM w P adr p u) (hq:aM w P adr q v) :
  ∃r y,K (r, .none)∧(do eqGuard op t xo yo u v;binOp op t u v:Sem Value).run Pg w= .ok y w∧aM w P adr r y:=by
 have fin: ∀{b:Bool} {a1 a2:SV},a1.den=u→a2.den=v→kT T t yo a1 a2=some b→(match op with | .eql=>(pureA (.bool b)).runP K | .neq=>(pureA (.bool (!b))).runP K | _=>False)→∃r y,K (r, .none)∧(do eqGuard op t xo yo u v;binOp op t u v:Sem Value).run Pg w= .ok y w∧aM w P adr r y:=by
  intro b a1 a2 e1 e2 hc hk
  subst e1;subst e2
  obtain⟨h1,h2⟩:=vr (xo:=xo) hT hc w
  cases op <;> first | exact hk.elim | skip
  ·exact⟨_,_,hk,h1, .val [_] .bool⟩
  ·exact⟨_,_,hk,h2, .val [_] .bool⟩
 have UK: ∀{k:Nat} {a2:SV},a2.den=v→(yd (vA k p) op).runP K→(∀b,vA k p=some b→kT T t yo (.val u) a2=some b)→∃r y,K (r, .none)∧(do eqGuard op t xo yo u v;binOp op t u v:Sem Value).run Pg w= .ok y w∧aM w P adr r y:=by
  intro k a2 e2 h hb
  cases hm:vA k p with
  | none=>rw [hm] at h;exact h.elim
  | some b=>
   rw [hm] at h
   refine fin (a1:= .val u) (b:=b) rfl e2 (hb b hm) ?_
   cases op <;> exact h
 cases q with
 | int k' b=>
  cases p with
  | int k a=>
   replace h:bz.runP (bif qE op || a₂ (Ih k) (Ih k') then(Ky op k a b).bind pureA else .bad) K:=h
   cases hk:(qE op || a₂ (Ih k) (Ih k')) with
   | false=>rw [hk] at h;exact h.elim
   | true=>
    rw [hk] at h
    rw [hp.int_,hq.int_]
    obtain⟨y,hy,r,hr,dA⟩:=EB (P:=Pg) (t:=t) (xo:=xo) (yo:=yo) (k':=k') hk (OX (w:=w) (P:=P) (adr:=adr) h)
    exact⟨r,y,hr,hy w,dA⟩
  | _=>exact h.elim
 | str b=>
  cases p with
  | str a=>
   rw [hp.str_,hq.str_]
   obtain⟨y,hy,r,hr,dA⟩:=EC (P:=Pg) (t:=t) (xo:=xo) (yo:=yo) (OY (w:=w) (P:=P) (adr:=adr) h)
   exact⟨r,y,hr,hy w,dA⟩
  | _=>exact h.elim
 | bool b=>
  cases p with
  | bool a=>
   replace h:bz.runP (match bD.find T t with | some .bool=>(Kz op a b).bind pureA | _=> .bad) K:=h
   split at h
   ·rename_i hd
    have hu:Pg.underlying t=some .bool:=TD.fits_bool (hT.fits hd)
    rw [hp.bool_,hq.bool_]
    obtain⟨y,hy,r,hr,dA⟩:=BK (P:=Pg) (t:=t) (xo:=xo) (yo:=yo) hu (OZ (w:=w) (P:=P) (adr:=adr) h)
    exact⟨r,y,hr,hy w,dA⟩
   ·exact h.elim
  | _=>exact h.elim
 | nilp=>
  replace h:bz.runP (match bD.find T t with | some .ptr=>yd (vA 0 p) op | _=> .bad) K:=h
  split at h
  ·rename_i hd
   refine UK (k:=0) (a2:= .val (.pointer none)) hq.nilp_.symm h fun b hb=>?_
   rcases Af hb hp with ⟨_,hc⟩ | ⟨hk,_⟩ | ⟨hk,_⟩
   ·rcases hc with ⟨rfl,rfl⟩ | ⟨a,rfl,rfl⟩ <;> simp [kT,hd]
   ·cases hk
   ·cases hk
  ·exact h.elim
 | nils=>
  replace h:bz.runP (match bD.find T t with | some (.slice ..)=>yd (vA 1 p) op | _=> .bad) K:=h
  split at h
  ·rename_i e es hd
   refine UK (k:=1) (a2:= .val (.slice none 0 0)) hq.nils_.symm h fun b hb=>?_
   rcases Af hb hp with ⟨hk,_⟩ | ⟨_,hc⟩ | ⟨hk,_⟩
   ·cases hk
   ·rcases hc with ⟨rfl,rfl⟩ | ⟨a,n,c,rfl,rfl⟩ <;> simp [kT,hd]
   ·cases hk
  ·exact h.elim
 | nili=>
  replace h:bz.runP (match bD.find T t,yo with | some .iface, .const _=>yd (vA 2 p) op | _,_=> .bad) K:=h
  split at h
  ·have hd:bD.find T t=some .iface:=by assumption
   refine UK (k:=2) (a2:= .val .nilIface) hq.nili_.symm h fun b hb=>?_
   rcases Af hb hp with ⟨hk,_⟩ | ⟨hk,_⟩ | ⟨_,hc⟩
   ·cases hk
   ·cases hk
   ·rcases hc with ⟨rfl,rfl⟩ | ⟨t',z,rfl,rfl⟩ <;> simp [kT,hd]
  ·exact h.elim
 | _=>exact Tf hT h hp hq
theorem KG (hI:bf w P adr m) {es:Nat} {q:MV} {k:Nat→List MV→bz (MV×Dl)} (h:(qF m es q k).runP K) (hq:aM w P adr q v) :
  ∃(n:Nat) (l:List MV) (A:Option Addr) (cap:Nat) (parts:List (List Value)),(k n l).runP K∧v= .slice A n cap∧l.length=n∧parts.length=n∧(∀p∈parts,p.length=es)∧(A=none→n=0)∧
   (∀a,A=some a→∀(j:Nat) x,parts.flatten[j]? =some x→w.cell? (a.add j)=some x)∧(∀(j:Nat) m p,l[j]? =some m→parts[j]? =some p→dk w P noAdr m p):=by
 unfold qF at h
 split at h
 ·rename_i n l
  obtain⟨hh,h⟩:=h
  obtain⟨A,cap,gr,parts,rfl,h1,h2,h3,h4,h5,h6,h7⟩:=hq.sl_
  refine⟨n,l,A,cap,parts,h,rfl,h1,h2,fun p hp=>?_,fun e=>(h4 e).1,fun a ha j x hx=>?_,h7⟩
  ·have hn:n≠0:=by rw [← h2];exact fun e=>by rw [a₆ e] at hp;cases hp
   cases l with
   | nil=>simp at h1;omega
   | cons z l=>
    have hz:=a₀ (show a₂ z.size es=true from hh)
    obtain⟨q,hq⟩:=dv (l:=z :: l) (parts:=parts) (by rw [h2,h1]) (i:=0) rfl
    rw [h3 p hp,← hz,← (h7 0 z q rfl hq).size,h3 q (a₉ hq)]
  ·by_cases hn:n=0
   ·have:parts= [] :=a₆ om
    subst this
    simp at hx
   ·obtain⟨b,o,hA,hc⟩:=h6 hn
    rw [ha] at hA
    injection hA with hA
    subst hA
    rw [Addr.add_mid]
    exact(hc j x hx).1
 ·rw [hq.nils_]
  exact⟨0,[],none,0,[],h,rfl,rfl,rfl,fun p hp=>(nomatch hp),fun _=>rfl,fun a ha=>(nomatch ha),fun j m p h=>(by simp at h)⟩
 ·rename_i c gr off n
  split at h
  ·rename_i b hb
   cases hc:(a₂ es gr && a₂ b.es es && b.row) with
   | false=>rw [hc] at h;exact h.elim
   | true=>
    rw [hc] at h
    simp only [a₁] at hc
    obtain⟨⟨e1,e2⟩,dP⟩:=hc
    have e1:=a₀ e1
    have e2:=a₀ e2
    subst e1
    obtain⟨hle,l,hl,h⟩:=h
    injection hl with hl
    subst hl
    have hlen:(cutL b.l off (off + n)).length=n:=by unfold cutL;rw [a₇,c₂];omega
    rcases hq.ms_ with ⟨rfl,rfl,rfl⟩ | ⟨g,o,cap,hg,rfl,ho,h5,h6,h7⟩
    ·exact⟨0,_,none,0,[],h,rfl,hlen,rfl,fun p hp=>(nomatch hp),fun _=>rfl,fun a ha=>(nomatch ha),fun j m p _ h=>(by simp at h)⟩
    ·rcases hI.blk c b hb with h1 | ⟨g',h1,h2⟩
     ·rw [hg] at h1;cases h1.2.2.1
     ·rw [hg] at h1
      injection h1 with h1
      subst h1
      obtain⟨cur,parts,h3,h4,h8,h9,Gb⟩:=h2.ofR dP
      rw [dP] at h9
      refine⟨n,_,some ⟨g,o,none⟩,cap,(parts.drop off).take n,h,rfl,hlen,by rw [a₇,c₂];omega,fun p hp=>by rw [h8 p (g₂ (b₄ hp)),e2],fun e=>(nomatch e),fun a ha j x hx=>?_,fun j z p hz hp=>?_⟩
      ·injection ha with ha
       subst ha
       have uD:n≠0:=by
        rintro rfl
        simp at hx
       have ho:=ho (.inl uD)
       subst ho
       rw [Addr.add_mid,cell_of_row w g _ cur b.ty (0,0) h3]
       have:=eH Gb (eu (es:=es) (fun p hp=>by rw [h8 p hp,e2]) off n hx om)
       simpa using this
      ·obtain⟨hz,hj⟩:=ka hz
       rw [c₄] at hp
       split at hp
       ·rw [c₅] at hp;exact h9 _ z p hz hp
       ·cases hp
  ·exact h.elim
 ·exact h.elim
end
end
section
section
variable {Pg:Program} {T:bD} {w w':World} {P P':cB} {adr aN:gG} {m:FM} {cnt:Nat} {K:MV×Dl→Prop} {u v x y:Value} {r:MV}
theorem lh (t ty e:TypeId) (i:TypeInfo) (ht:Pg.underlying t=some (.slice e)) (hi:Pg.info? e=some i) (A:Option Addr) (n cap c:Nat) (h:n≤cap) :
  (Builtin.append_ #[t,t] ty #[.slice A n cap, .slice none 0 c]).run Pg w= .ok (.slice A n cap) w:=by
 cases A <;> simp [Builtin.append_,run_underlying ht,sizeOf,typeInfo,hi,Builtin.lenOf,h,run_firstCells_none,storeCells]
theorem sV (t ty e:TypeId) (i:TypeInfo) (ht:Pg.underlying t=some (.slice e)) (hi:Pg.info? e=some i) (a:Addr) (c:Nat) :
  (Builtin.append_ #[t,t] ty #[.slice none 0 0, .slice (some a) 0 c]).run Pg w= .ok (.slice none 0 0) w:=by
 simp [Builtin.append_,run_underlying ht,sizeOf,typeInfo,hi,Builtin.lenOf,Builtin.firstCells,loadCells,loadCellsFrom]
theorem vJ (_hI:bf w P adr m) {m':FM} (VI:bf w P adr m') (hn:adr cnt=none) (hm:m' cnt=none) {δ:Dl} {b:MB} (hδ:δ.appF cnt m=aR m' cnt b) {e:TypeId} {es n cap:Nat} {news tail:List Value} (he:b.ty=e) (ej:b.es=es) (dP:b.row=true) (hle:b.pe≤b.l.length)
  {parts:List (List Value)} (jD:parts.length=b.l.length) (hpe: ∀p∈parts,p.length=es) (hr: ∀(j:Nat) x p,b.l[j]? =some x→parts[j]? =some p→dk w P noAdr x p) (Xx:parts.flatten=news) (i0w:b.l.length=n) (iq:n≤cap) (sE:cap≤maxLen) (gM:(news ++ tail).length=cap * es) :
  bP w P adr m cnt (.ms cnt es 0 n) δ (.slice (some ⟨w.heap.size,0,none⟩) n cap) (w.drew.alloc (.cells (news ++ tail).toArray e)):=by
 have hb:Below w.heap.size w (w.drew.alloc (.cells (news ++ tail).toArray e)):=by
  have:=Below.alloc1 w.drew (.cells (news ++ tail).toArray e)
  exact⟨this.os,this.tape,this.output,this.size,this.block⟩
 have xQ:(w.drew.alloc (.cells (news ++ tail).toArray e)).heap[w.heap.size]? =some (.cells (news ++ tail).toArray e (0,0)):=heap_alloc_new w.drew _
 subst he
 obtain⟨h1,h2⟩:=VI.new (b:=b) hn hm hb xQ jD (by rw [ej];exact hpe) (by rw [dP];exact hr) ⟨tail,by rw [Xx]⟩ hle
 refine⟨P,_,?_,by rw [hδ];exact h1,h2,fun c hc=>aL _ _ hc,fun g hg=>?_,(db.of_below hb).weak fun _ e=>e.elim,fun _ _ h=> .inl h⟩
 ·exact .val [_] (.ms w.heap.size 0 cap (aI _ _ _) (fun _=>by simp) iq sE ⟨_,_,xQ,fun _=>by rw [c₀,gM]⟩)
 ·rw [aI] at hg
  injection hg with hg
  exact .inl (Nat.le_of_eq hg)
theorem zeros_list (z:Array Value) (n:Nat):(Builtin.zeroCells z n).toList.length=n * z.size:=by rw [Array.length_toList,size_zeroCells]
theorem KH (w:World) (a b:List Value) (z:Array Value) (e:TypeId):w.drew.alloc (.cells (a.toArray ++ b.toArray ++ z) e)=w.drew.alloc (.cells (a ++ b ++ z.toList).toArray e):=by
 congr 2;apply Array.toList_inj.1;simp
theorem Iu (w:World) (b:List Value) (z:Array Value) (e:TypeId):w.drew.alloc (.cells (b.toArray ++ z) e)=w.drew.alloc (.cells (b ++ z.toList).toArray e):=by
 congr 2;apply Array.toList_inj.1;simp
theorem EI (hT:cZ Pg T) (hI:bf w P adr m) (hn:adr cnt=none) (hm:m cnt=none) {er:Array TypeId} {ty:TypeId} {p q:MV} (h:(gT Pg T m cnt er.toList p q).runP K) (hp:aM w P adr p u) (hq:aM w P adr q v) :
  ∃r δ y w',K (r,δ)∧(Builtin.append_ er ty #[u,v]).run Pg w= .ok y w'∧bP w P adr m cnt r δ y w':=by
 unfold gT at h
 split at h
 ·rename_i t0 t1 RO
  obtain rfl:er= #[t0,t1] :=by cases er;simp at RO;subst RO;rfl
  cases XF:a₂ t0 t1 with
  | false=>rw [XF] at h;exact h.elim
  | true=>
   rw [XF] at h
   have XF:=a₀ XF
   subst XF
   simp only [cond_true] at h
   split at h
   ·rename_i e es hd
    obtain⟨hu,hs⟩:=TD.fits_slice (hT.fits (t:=t0) hd)
    split at h
    ·rename_i z hz
     cases hb:(a₂ z.size es && f₃ 0 es) with
     | false=>rw [hb] at h;exact h.elim
     | true=>
      rw [hb] at h
      simp only [a₁] at hb
      have gM:=a₀ hb.1
      have ej:0 < es:=by simpa [g₁] using hb.2
      obtain⟨Eh,RP,h⟩:=h
      obtain⟨n1,l,A,Et,parts,h,rfl,yz,nd,xL,hA,sJ,dA⟩:=KG hI h hq
      obtain⟨cs,c1,c2,_⟩:=gu 9 e _ hz
      have tW:=c1 []
      rw [c₉] at tW
      obtain⟨zv,Ey,Vb⟩:=hT.zero tW w
      have Br:zv.cells.size=es:=by rw [← Array.length_toList,Vb,(c2 w P).size,gM]
      have Vg: ∀x∈parts.flatten,x.oneCell'=true:=by
       intro x hx
       obtain⟨p,hp,hx⟩:=f₅.1 hx
       obtain⟨j,hj,rfl⟩:=d₅.1 hp
       exact(dA j _ _ (a₃ om) (a₃ hj)).one x hx
      cases hi:Pg.info? e with
      | none=>simp [hi] at RP
      | some it=>
       have R9:it.bytes=Eh:=by simpa [hi] using RP
       have Bw:it.size=es:=by simpa [gF,hi] using hs
       have hit:it.zero=some zv:=by
        cases hv:it.zero with
        | none=>simp [zeroValue,typeInfo,hi,hv,unsupported] at Ey
        | some v=>simp [zeroValue,typeInfo,hi,hv] at Ey;rw [Ey]
       have xN:parts.flatten.length=n1 * it.size:=by rw [aU xL,nd,Bw]
       -- a nil slice,appended to
       have Ig: ∀{m':FM} {b:MB} {δ:Dl},bf w P adr m'→m' cnt=none→δ.appF cnt m=aR m' cnt b→b.ty=e→b.es=es→b.row=true→b.pe≤b.l.length→b.l=l→n1 * Eh≤140737488355328→n1≤maxLen→K (.ms cnt es 0 n1,δ)→
         ∃r δ y w',K (r,δ)∧(Builtin.append_ #[t0,t0] ty #[.slice none 0 0, .slice A n1 Et]).run Pg w= .ok y w'∧bP w P adr m cnt r δ y w':=by
        intro m' b δ VI hm' hδ sB X4 hbr hbp kS sM iY hK
        by_cases h0:n1=0
        ·subst h0
         have xV:l= [] :=a₆ yz
         refine⟨_,_, .slice none 0 0,w,hK,?_,P,adr, .val [_] .ms0,by rw [hδ];exact VI.unborn hn hbr (by rw [kS,xV]) (by rw [kS,xV] at hbp;exact Nat.le_zero.1 hbp),bJ.refl _ _ _,fun _ _=>rfl,fun g hg=>(by rw [hn] at hg;cases hg),db.refl _ _,fun _ _ h=> .inl h⟩
         cases A with
         | none=>exact lh t0 ty e it hu hi none 0 0 Et (e₉ _)
         | some a=>exact sV t0 ty e it hu hi a Et
        ·cases A with
         | none=>exact absurd (hA rfl) h0
         | some a=>
          have hr:=run_append_nil (P:=Pg) w t0 ty e it zv hu hi hit a n1 Et parts.flatten xN (sJ a rfl) om (by unfold maxLen at iY;omega) (by rw [R9];omega)
          rw [Iu] at hr
          have Ko:=grownCap_ge w n1 0 e
          have hle:=grownCap_le_maxLen w n1 0 e iY
          refine⟨_,_,_,_,hK,hr,vJ hI VI hn hm' hδ sB X4 hbr hbp (by rw [kS,yz,nd]) xL (by rw [kS];exact dA) rfl (by rw [kS,yz]) Ko hle ?_⟩
          rw [a₅,zeros_list,Br,xN,Bw,← d₇]
          congr 1
          omega
       split at h
       ·obtain⟨⟨sM,iY⟩,h⟩:=h
        rw [hp.nils_]
        exact Ig hI hm rfl rfl rfl rfl (d₈ _) rfl sM iY h
       ·rename_i c gr off n _
        split at h
        ·rename_i b Yu
         cases hc:(a₂ off 0 && a₂ es gr && a₂ b.es es && b.row && a₂ b.ty e) with
         | false=>rw [hc] at h;exact h.elim
         | true=>
          rw [hc] at h
          have hh:=h
          clear h
          simp only [a₁] at hc
          obtain⟨⟨⟨⟨e1,e2⟩,e3⟩,dP⟩,e4⟩:=hc
          have e1:=a₀ e1
          have e2:=a₀ e2
          have e3:=a₀ e3
          have e4:=a₀ e4
          subst e1;subst e2
          obtain⟨⟨kS,sM,iY⟩,l',Bq,k,hk,h⟩:=hh
          injection Bq with Bq
          injection hk with hk
          subst Bq;subst hk
          have hcc:c≠cnt:=by rintro rfl;rw [hm] at Yu;cases Yu
          have H8:jJ m c cnt=none:=by unfold jJ;split;rfl;exact hm
          have SA:bf w P adr (jJ m c):=hI.sub fun x y hx=>(oL hx).2
          rcases hp.ms_ with ⟨rfl,_,rfl⟩ | ⟨g,o,yA,hg,rfl,ho,h5,h6,Gf,ty0,h7,h8⟩
          ·have Yk:b.l= [] :=a₆ kS
           have c0h:b.pe≤(b.l ++ l).length:=by
            rcases hI.blk c b Yu with h1 | ⟨g',_,h2⟩
            ·rw [h1.2.2.2];exact d₈ _
            ·have:=h2.le;rw [a₅];omega
           rw [h₁] at sM iY h
           exact Ig SA H8 rfl rfl rfl rfl c0h (by rw [Yk];rfl) sM iY h
          ·have ho:=ho (.inr rfl)
           rw [Nat.zero_mul] at ho
           subst ho
           rcases hI.blk c b Yu with h1 | ⟨g',h1,h2⟩
           ·rw [hg] at h1;cases h1.2.2.1
           ·rw [hg] at h1
            injection h1 with h1
            subst h1
            obtain⟨cur,k9,h3,h4,h9,Gb,h11⟩:=h2.ofR dP
            rw [dP] at Gb
            rw [h3] at h7
            injection h7 with h7
            injection h7 with h7 _
            subst h7
            have pw:=h8 rfl
            have U4:k9.flatten.length=n * es:=by rw [aU h9,h4,kS,e3]
            obtain⟨tl,Kt⟩:=h11
            have j0r:=h2.le
            have fF: ∀p∈k9 ++ parts,p.length=es:=by
             intro p hp
             rcases List.mem_append.1 hp with hp | hp
             ·rw [h9 p hp,e3]
             ·exact xL p hp
            have SB: ∀(j:Nat) x p,(b.l ++ l)[j]? =some x→(k9 ++ parts)[j]? =some p→dk w P noAdr x p:=by
             intro j x p hx hp
             rw [g₀] at hx hp
             rw [h4] at hp
             split at hx
             ·rename_i hj
              rw [if_pos hj] at hp
              exact Gb j x p hx hp
             ·rename_i hj
              rw [if_neg hj] at hp
              exact dA _ x p hx hp
            by_cases fK:n + n1≤yA
            ·have k8:(Builtin.append_ #[t0,t0] ty #[.slice (some ⟨g,0,none⟩) n yA, .slice A n1 Et]).run Pg w= .ok (.slice (some ⟨g,0,none⟩) (n + n1) yA) (w.setRow g (cur.toList.take (n * es) ++ parts.flatten ++ cur.toList.drop (n * es + parts.flatten.length)).toArray):=by
              cases A with
              | none=>
               have h0:=hA rfl
               subst h0
               have OH:parts= [] :=a₆ nd
               subst OH
               have e7:(cur.toList.take (n * es) ++ ([] :List (List Value)).flatten ++ cur.toList.drop (n * es + ([] :List (List Value)).flatten.length)).toArray=cur:=by
                simp
               rw [e7,setRow_self w g cur b.ty (0,0) h3]
               exact lh t0 ty e it hu hi _ n yA Et h5
              | some a=>
               have:=run_append_room (P:=Pg) w t0 ty e it hu hi g n yA cur (by rw [h3,e4]) a n1 Et parts.flatten xN (sJ a rfl) Vg fK (by rw [xN,pw,Bw,← d₇];exact c₈ _ fK)
               rw [Bw] at this
               exact this
             have zW:cur.toList.take (n * es)=k9.flatten:=by rw [← Kt,← U4,e₂]
             rw [zW] at k8
             have BF:(cur.toList.drop (n * es + parts.flatten.length)).length=cur.size - (n * es + parts.flatten.length):=sm
             have h0g:n * es + parts.flatten.length≤cur.size:=by rw [xN,pw,Bw,← d₇];exact c₈ _ fK
             have hw:=hI.write (b':=⟨e,es,true,b.pe,b.l ++ l⟩) sm Yu hg e4.symm e3.symm rfl h3 (cur':=(k9.flatten ++ parts.flatten ++ cur.toList.drop (n * es + parts.flatten.length)).toArray)
              (by simp only [c₀,a₅,BF];omega)
              (fun o ho=>by
               have Yf:=h2.pe o ho
               have h13:b.pe * b.es≤n * es:=by rw [e3];exact c₈ _ om
               have e5:cur[o]? =cur.toList[o]? :=sm
               rw [e5,← Kt,b₂ om]
               have e6:(k9.flatten ++ parts.flatten ++ cur.toList.drop (n * es + parts.flatten.length)).toArray[o]? =(k9.flatten ++ (parts.flatten ++ cur.toList.drop (n * es + parts.flatten.length)))[o]? :=sm
               rw [Kt,e6,b₂ om])
              (parts:=k9 ++ parts) (by simp [h4,yz,nd]) fF SB ⟨cur.toList.drop (n * es + parts.flatten.length),sm⟩
             have xY:=hw.1.rename hg hn hm
             refine⟨_,_,_,_,h,k8,P,aR adr cnt g,?_,xY.1,hw.2.trans xY.2,fun x hx=>aL _ _ hx,fun g' BA=>?_,?_,fun _ _ h=> .inl h⟩
             ·refine .val [_] (.ms g 0 yA (aI _ _ _) (fun _=>by simp) fK h6 ⟨_,_,setRow_heap w g cur _ b.ty (0,0) h3,fun _=>?_⟩)
              simp only [c₀,a₅,BF]
              omega
             ·rw [aI] at BA
              injection BA with BA
              exact .inr ⟨c,by rw [hg,BA]⟩
             ·exact⟨rfl,rfl,rfl,sm,fun b' px gf=>setRow_other _ _ _ _ fun e=>gf ⟨c,by rw [e];exact hg⟩⟩
            ·cases A with
             | none=>exact absurd (hA rfl) om
             | some a=>
              have hr:=run_append_grow (P:=Pg) w t0 ty e it zv hu hi hit ⟨g,0,none⟩ n yA k9.flatten (by rw [U4,Bw]) (fun j x hx=>by
               rw [Addr.add_mid,cell_of_row w g _ cur b.ty (0,0) h3,h₁]
               have:=eH ⟨tl,Kt⟩ hx
               simpa using this) a n1 Et parts.flatten xN (sJ a rfl) om (by unfold maxLen at iY;omega) (growslice_fits om (by rw [R9];exact sM))
              rw [KH] at hr
              have Ko:=grownCap_ge w (n + n1) yA e
              have hle:=grownCap_le_maxLen w (n + n1) yA e iY
              refine⟨_,_,_,_,h,hr,vJ hI SA hn H8 rfl rfl rfl rfl (by simp;omega) (parts:=k9 ++ parts) (by simp [h4,yz,nd]) fF SB sm (by simp [kS,yz]) Ko hle ?_⟩
              rw [a₅,a₅,zeros_list,Br,U4,xN,Bw,← d₇,← d₇]
              congr 1
              omega
        ·exact h.elim
       ·exact h.elim
    ·exact h.elim
   ·exact h.elim
 ·exact h.elim
end
end
end Go.Proofs.YtohikcplmbkmeaaGreatDoor
