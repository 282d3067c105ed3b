/- Parts of a proof, one behind the other: Base, Eng, Vc, Op, OpOk, M1, M2, M3, Code, Slice, Eq, M4, M5, M6, M7, M8, M9, M10, M11, M12, M13. -/
import Derived.WalkKit
import Derived.ProofKit
import Derived.OpenShut
import Derived.OwnWalk
import Derived.Deep.QuietTactic
import Derived.BigQuiet
import Derived.Deep.LoopGhost
import Derived.Deep.MidRow
import Derived.Deep.WholeRow
import Derived.Deep.Slices
import Derived.Lib.Hide
import Derived.Orders
import Derived.OrdersHeld
import Derived.Shelf.Abstract
import Derived.ChangeKeysEq
import Derived.Laws.IdiomStrings
import Derived.MapKept
import Derived.Test.YthdhlcicpcnbhaaGreatDoorProg
import Derived.Shelf.Small.Bits
import Derived.Shelf.Strconv.Itoa0
import Derived.Shelf.Unicode.DecodeSlow
import Derived.Shelf.Unicode.DecodeAny
import Derived.Laws.Externs
import Derived.Lib.ItoaNum
import Derived.Shelf.RegionOpenPlain
import Derived.Lib.Walk
import Derived.Lib.SliceRun
import Derived.Lib.JoinLaws
import Derived.Lib.AppendZeros
import Derived.Lib.Overlaps
import Derived.Lib.AppendZerosOnto
import Derived.Laws.NewBlocks
import Derived.Laws.IdiomCopy
import Derived.Lib.ReflectliteSwap
import Derived.Shelf.SlSortCmp.WholeK
import Derived.Shelf.SlSortCmp.QuietGrown
import Derived.Shelf.GgSortFunc.InsertionK
import Derived.Shelf.SlSortCmp.InsertionK
import GoSem.ClaimJoined
import Derived.Test.YthdhlcicpcnbhaaGreatDoorRows
import Derived.Test.YthdhlcicpcnbhaaGreatDoorCards
import Derived.Test.YthdhlcicpcnbhaaGreatDoorTie
import Derived.Deep.DeepHandedRow
import Derived.Lib.LaidU8T
import Derived.Lay
import Derived.Stop.LaidErr
import Derived.Stop.Joined
open Nat renaming beq → a₀,eq_of_beq_eq_true → a₂,min_eq_left → b₉,le_of_ble_eq_true → c₆,ble → d₁,blt → e₁,zero_le → e₇,lt_of_lt_of_le → e₈,add_assoc → e₉,succ_mul → f₂,le_refl → f₆,mul_le_mul_right → f₈,add_zero → g₅,mod_eq_of_lt → g₉,blt_eq → h₂
open Bool renaming and_eq_true → a₁,false_eq_true → c₂,not_eq_true' → g₇
open List renaming getElem?_eq_some_iff → a₃,getElem?_eq_getElem → a₄,length_take → a₅,length_append → a₆,length → a₇,mem_of_getElem? → a₈,flatten_cons → a₉,getElem?_map → b₀,eq_nil_of_length_eq_zero → b₁,replicate → b₂,getElem?_append_left → b₃,mem_of_mem_take → b₄,append_assoc → b₅,mem_replicate → b₆,all_eq_true → b₇,getElem?_append_right → b₈,length_map → c₀,length_drop → c₁,getElem?_take → c₃,getElem?_drop → c₄,take_append_drop → c₅,ext_getElem? → c₉,size_toArray → d₀,mem_cons_of_mem → d₂,take_succ_cons → d₃,replicate_succ → d₄,append_nil → d₅,mem_cons_self → d₆,getElem?_set → d₇,take_of_length_le → d₈,map_cons → d₉,mem_cons → e₀,getElem?_eq_none → e₂,mem_iff_getElem → e₃,length_flatten → e₄,take_left → e₅,drop_left → e₆,drop_eq_getElem_cons → f₀,mem_or_eq_of_mem_set → f₁,mem_map → f₃,getElem?_replicate → f₄,foldr_cons → f₅,sum_replicate_nat → f₇,mem_of_mem_drop → f₉,take_replicate → g₀,drop_succ_cons → g₁,flatten_append → g₂,set_cons_succ → g₃,extract → g₄,map_replicate → g₆,length_cons → g₈,mem_flatten → h₀,getElem_mem → h₁,append_inj → h₃,map_append → h₄,mem_range → h₅
open Option renaming map_eq_some_iff → c₇
open Int renaming toNat_natCast → c₈
set_option maxRecDepth 20000
set_option maxHeartbeats 16000000
set_option linter.unusedVariables false
set_option linter.unusedSimpArgs false
namespace Go.Proofs.YthdhlcicpcnbhaaGreatDoor
open Go.RowKit
theorem om {p:Prop} (h:p:=by omega):p:=h
theorem sm {p:Prop} (h:p:=by simp):p:=h
theorem dm {p:Prop} (h:p:=by dsimp only;omega):p:=h
theorem ot {p:Prop} [Decidable p] (h:decide p=true):p:=of_decide_eq_true h
abbrev ag (n:Nat):Nat×Bool:=(n,false)
abbrev de (n:Nat):Nat×Bool:=(n,true)
theorem oF {p:Prop} [Decidable p] (h:decide p=false): ¬p:=of_decide_eq_false h
theorem bx:(∀{p:Prop} [Decidable p],(decide p=true)=p)∧(∀{p:Prop} [Decidable p],(decide p=false)↔ ¬p)∧(∀{α:Type} [BEq α] [LawfulBEq α] {a b:α},(a == b)=true↔a=b)∧(∀{α:Type} [BEq α] [LawfulBEq α] {a b:α},(a !=b)=true↔a≠b)∧(∀{α:Type} (a b:α),(a≠b)= ¬(a=b))∧((!true)=false)∧((!false)=true)∧(∀{α:Type} [BEq α] [LawfulBEq α] {a b:α},(a == b)=false↔a≠b)∧(∀{α:Type} [BEq α] [LawfulBEq α] {a b:α},(a !=b)=false↔a=b)∧(∀(b:Bool),(¬b=true)=(b=false))∧(∀(b:Bool),(¬b=false)=(b=true))∧(∀{a b:Bool},(!a)=b↔a= !b):=
 ⟨decide_eq_true_eq,decide_eq_false_iff_not,beq_iff_eq,bne_iff_ne,ne_eq,Bool.not_true,Bool.not_false,beq_eq_false_iff_ne,bne_eq_false_iff_eq,Bool.not_eq_true,Bool.not_eq_false,Bool.not_eq_eq_eq_not⟩
section
abbrev Fp:=Nat→Prop
theorem nZ {w w':World} {b o:Nat} {cs:List Value} (h:w.rangeAt b o cs) (hw:b < w.heap.size→w'.heap[b]? =w.heap[b]?):w'.rangeAt b o cs:=fun j v hv=>by
 have hc:=h j v hv;have hlt:=World.block_lt_of_cell? w _ hc;rw [World.cell?_of_block (w:=w) (w':=w') (hw hlt)];exact hc
def PQ (w:World) (g:Nat) (t:TypeId) (cs:Array Value):Prop:=w.heap[g]? =some (.cells cs t (0,0))
end
section
inductive SV where
 | val (v:Value)
 | ptr (i g off:Nat)
 | lit (b:Bool)
 deriving Inhabited
structure KB where
 g:Nat
 t:TypeId
 cs:List SV
abbrev GV:=List (Nat×KB)
abbrev NW:=List (Nat×SV)
abbrev Ka:=List (World×Fp)
def GV.find:GV→Nat→Option KB
 | [],_=>none
 | (j,kb) :: M,i=>bif a₀ j i then some kb else GV.find M i
def NW.get:NW→Nat→Option SV
 | [],_=>none
 | (j,v) :: E,i=>bif a₀ j i then some v else NW.get E i
def SV.den:SV→Value
 | .val v=>v
 | .ptr _ g off=> .pointer (some ⟨g,off,none⟩)
 | .lit b=> .bool b
structure bl (ex:Fp) (h w:World):Prop where
 os:w.os=h.os
 tape:w.tape=h.tape
 output:w.output=h.output
 size:h.heap.size≤w.heap.size
 block: ∀b,b < h.heap.size→¬ ex b→w.heap[b]? =h.heap[b]?
structure A (M:GV) (H:Ka) (w:World):Prop where
 blk: ∀i kb,M.find i=some kb→PQ w kb.g kb.t (kb.cs.map SV.den).toArray
 apart: ∀i j ki kj,M.find i=some ki→M.find j=some kj→i≠j→ki.g≠kj.g
 since: ∀p∈H,bl p.2 p.1 w
 fresh: ∀p∈H,∀i kb,M.find i=some kb→p.2 kb.g∨p.1.heap.size≤kb.g
def ev (E:NW):Operand→Option SV
 | .tmp t=>E.get t
 | .const v=>some (.val v)
 | .global g=>some (.val (.pointer (some ⟨g,0,none⟩)))
 | .func f=>some (.val (.func (.func f) #[] #[]))
theorem fD {d t:Nat} (h: ¬ d=t):a₀ d t=false:=by
 cases hb:a₀ d t with
 | false=>rfl
 | true=>exact absurd (a₂ hb) h
theorem bl.refl (ex:Fp) (w:World):bl ex w w:=⟨rfl,rfl,rfl,f₆ _,fun _ _ _=>rfl⟩
theorem bl.step {ex:Fp} {h w w':World} {row:Fp} (k:bl ex h w) (s:bl row w w') (hr: ∀b,row b→ex b∨h.heap.size≤b):bl ex h w':=
 ⟨s.os.trans k.os,s.tape.trans k.tape,s.output.trans k.output,Nat.le_trans k.size s.size,fun b hb he=>by
  refine(s.block b (e₈ hb k.size) fun hrb=>?_).trans (k.block b hb he);rcases hr b hrb with h1 | h1
  ·exact he h1
  ·omega⟩
theorem bl.of_below {w w':World} (h:Below w.heap.size w w'):bl (fun _=>False) w w':=⟨h.os,h.tape,h.output,h.size,fun b hb _=>h.block b hb⟩
theorem bl.below {h w:World} (k:bl (fun _=>False) h w):Below h.heap.size h w:=⟨k.os,k.tape,k.output,k.size,fun b hb=>k.block b hb (fun e=>e)⟩
end
section
inductive TD where
 | int (k:IntKind) | bool | str | ptr | iface
 | slice (e:TypeId) (es:Nat)
 | arr (n:Nat) (e:TypeId) (es:Nat)
 | struct (fs:List (Nat×TypeId)) (size:Nat)
 | fn
 | other
abbrev bf:=List (Nat×TD)
def bf.find:bf→Nat→Option TD
 | [],_=>none
 | (j,d) :: T,i=>bif a₀ j i then some d else bf.find T i
def TD.agg:TD→Bool | .arr .. | .struct .. =>true | _=>false
def TD.size:TD→Nat | .arr n _ es=>n * es | .struct _ s=>s | _=>1
def fa (P:Program) (t:TypeId) (n:Nat):Bool:=match P.info? t with | some i=>i.size == n | none=>false
def w7 (P:Program) (t:TypeId):Bool:=match P.info? t with | some i=>decide (0 < i.size) | none=>false
def sa (P:Program):List (Nat×TypeId)→Nat→Bool
 | [],_=>true
 | (o,t) :: fs,n=>o == n && match P.info? t with | some i=>sa P fs (n + i.size) | none=>false
def TD.fitsB (P:Program) (t:TypeId) (d:TD):Bool:=
 fa P t d.size && match d,P.underlying t with
 | .int k,some (.int k')=>decide (k=k')
 | .bool,some .bool=>true
 | .str,some .string=>true
 | .ptr,some (.pointer _)=>true
 | .ptr,some .unsafePointer=>true
 | .iface,some (.interface _)=>true
 | .slice e es,some (.slice e')=>decide (e=e') && fa P e es
 | .arr n e es,some (.array n' e')=>decide (n=n') && decide (e=e') && fa P e es
 | .struct fs _,some (.struct fields)=>decide (fields.toList.map (fun f=>(f.offset,f.type))=fs) && fields.toList.all (fun f=>w7 P f.type) && sa P fs 0
 | .fn,some (.func ..)=>true
 | .other,some d=>(match d with | .struct _ | .array _ _=>false | _=>true)
 | _,_=>false
def O5:Value→Value→Bool
 | .int k a, .int j b=>decide (k=j) && decide (a=b)
 | .bool a, .bool b=>a == b
 | .string a, .string b=>decide (a.data=b.data)
 | .pointer none, .pointer none=>true
 | .slice none 0 0, .slice none 0 0=>true
 | .map none, .map none=>true
 | .nilFunc, .nilFunc=>true
 | .nilIface, .nilIface=>true
 | _,_=>false
theorem Mr {a b:Value} (h:O5 a b=true):a=b:=by
 unfold O5 at h;split at h <;> simp_all
 cases ‹ByteArray›;cases ‹ByteArray›;simp_all
def bU (T:bf):Nat→Nat→List SV→Option (List SV)
 | 0,_,_=>none
 | f + 1,t,acc=>match bf.find T t with
  | some (.int k)=>some (.val (.int k 0) :: acc)
  | some .bool=>some (.val (.bool false) :: acc)
  | some .str=>some (.val (.string ⟨#[]⟩) :: acc)
  | some .ptr=>some (.val (.pointer none) :: acc)
  | some .iface=>some (.val .nilIface :: acc)
  | some .fn=>some (.val .nilFunc :: acc)
  | some (.slice ..)=>some (.val (.slice none 0 0) :: acc)
  | some (.arr n e _)=>n.rec (some acc) (fun _ r=>match r with | some a=>bU T f e a | none=>none)
  | some (.struct fs _)=>fs.foldr (fun x r=>match r with | some a=>bU T f x.2 a | none=>none) (some acc)
  | _=>none
def w9:List SV→List Value→Bool
 | [],[] =>true
 | a :: x,b :: y=>O5 a.den b && w9 x y
 | _,_=>false
theorem vO: ∀{x:List SV} {y:List Value},w9 x y=true→x.map SV.den=y
 | [],[],_=>rfl
 | a :: x,b :: y,h=>by
  simp only [w9,a₁] at h
  simp [Mr h.1,vO h.2]
 | [],_ :: _,h=>by cases h
 | _ :: _,[],h=>by cases h
def L8 (P:Program) (T:bf) (t:TypeId):Bool:=
 match bU T 9 t [],(P.info? t).bind (·.zero) with
 | some z,some v=>w9 z v.cells.toList
 | none,_=>true
 | _,_=>false
def O6 (P:Program) (T:bf):Bool:=T.all fun x=>x.2.fitsB P x.1 && L8 P T x.1
structure bL (P:Program) (T:bf):Prop where
 all:O6 P T=true
theorem bf.find_mem: ∀{T:bf} {t:Nat} {d:TD},bf.find T t=some d→(t,d)∈T
 | (j,e) :: T,t,d,h=>by
  have h':(bif a₀ j t then some e else bf.find T t)=some d:=h
  by_cases hj:j=t
  ·subst hj;simp at h';subst h';exact d₆
  ·simp only [fD hj,cond_false] at h'
   exact d₂ _ (bf.find_mem h')
theorem bL.fits {P:Program} {T:bf} (h:bL P T) {t:Nat} {d:TD} (ht:bf.find T t=some d):d.fitsB P t=true:=by
 have:=b₇.1 h.all _ (bf.find_mem ht);simp only [a₁] at this;exact this.1
theorem bL.zero {P:Program} {T:bf} (h:bL P T) {t:Nat} {z:List SV} (hz:bU T 9 t [] =some z) (w:World) :
  ∃v:Value,(zeroValue t).run P w= .ok v w∧v.cells.toList=z.map SV.den:=by
 have hd: ∃d,bf.find T t=some d:=by
  cases hf:bf.find T t with
  | none=>simp [bU,hf] at hz
  | some d=>exact ⟨d,rfl⟩
 obtain⟨d,hd⟩:=hd
 have:=b₇.1 h.all _ (bf.find_mem hd)
 simp only [a₁] at this
 have h2:=this.2
 unfold L8 at h2
 rw [hz] at h2
 cases hi:P.info? t with
 | none=>simp [hi] at h2
 | some i=>
  cases hv:i.zero with
  | none=>simp [hi,hv] at h2
  | some v=>
   simp [hi,hv] at h2
   exact⟨v,by simp [zeroValue,typeInfo,hi,hv],(vO h2).symm⟩
theorem bj {P:Program} {t:TypeId} {n:Nat} (h:fa P t n=true) (w:World):(sizeOf t).run P w= .ok n w:=by
 unfold fa at h;split at h
 ·rename_i i hi;simp at h;simp [sizeOf,typeInfo,hi,h]
 ·cases h
theorem TD.fits_size {P:Program} {t:TypeId} {d:TD} (h:d.fitsB P t=true):fa P t d.size=true:=by
 unfold TD.fitsB at h;simp only [a₁] at h;exact h.1
theorem TD.fits_agg {P:Program} {t:TypeId} {d:TD} (h:d.fitsB P t=true) (w:World):(isAgg t).run P w= .ok d.agg w:=by
 unfold TD.fitsB at h;simp only [a₁] at h;have h2:=h.2;split at h2 <;> first | (rename_i hu;simp [isAgg,run_underlying hu,TD.agg];done) | (cases h2;done) | skip
 ·rename_i hu;split at h2
  ·cases h2
  ·cases h2
  ·rename_i hs ha;unfold isAgg;rw [Sem.run_bind,run_underlying hu];rename_i d' _;cases d' <;> simp_all [TD.agg]
theorem TD.fits_int {P:Program} {t:TypeId} {k:IntKind} (h:(TD.int k).fitsB P t=true):P.underlying t=some (.int k):=by
 unfold TD.fitsB at h;simp only [a₁] at h;obtain⟨_,h⟩:=h;cases hu:P.underlying t with
 | none=>simp [hu] at h
 | some d=>cases d <;> simp_all
theorem TD.fits_bool {P:Program} {t:TypeId} (h:TD.bool.fitsB P t=true):P.underlying t=some .bool:=by
 unfold TD.fitsB at h;simp only [a₁] at h;obtain⟨_,h⟩:=h;cases hu:P.underlying t with
 | none=>simp [hu] at h
 | some d=>cases d <;> simp_all
theorem TD.fits_str {P:Program} {t:TypeId} (h:TD.str.fitsB P t=true):P.underlying t=some .string:=by
 unfold TD.fitsB at h;simp only [a₁] at h;obtain⟨_,h⟩:=h;cases hu:P.underlying t with
 | none=>simp [hu] at h
 | some d=>cases d <;> simp_all
theorem TD.fits_slice {P:Program} {t e:TypeId} {es:Nat} (h:(TD.slice e es).fitsB P t=true):P.underlying t=some (.slice e)∧fa P e es=true:=by
 unfold TD.fitsB at h;simp only [a₁] at h;obtain⟨_,h⟩:=h;cases hu:P.underlying t with
 | none=>simp [hu] at h
 | some d=>
  cases d <;> simp [hu] at h ⊢
  obtain⟨h1,h2⟩:=h;first | (subst h1;exact⟨rfl,h2⟩) | (obtain⟨h1,h3⟩:=h1;subst h1;subst h3;exact⟨⟨rfl,rfl⟩,h2⟩)
theorem TD.fits_arr {P:Program} {t e:TypeId} {n es:Nat} (h:(TD.arr n e es).fitsB P t=true):P.underlying t=some (.array n e)∧fa P e es=true:=by
 unfold TD.fitsB at h;simp only [a₁] at h;obtain⟨_,h⟩:=h;cases hu:P.underlying t with
 | none=>simp [hu] at h
 | some d=>
  cases d <;> simp [hu] at h ⊢
  obtain⟨h1,h2⟩:=h;first | (subst h1;exact⟨rfl,h2⟩) | (obtain⟨h1,h3⟩:=h1;subst h1;subst h3;exact⟨⟨rfl,rfl⟩,h2⟩)
theorem TD.fits_struct {P:Program} {t:TypeId} {fs:List (Nat×TypeId)} {sz:Nat} (h:(TD.struct fs sz).fitsB P t=true) :
  ∃fields:Array Field,P.underlying t=some (.struct fields)∧fields.toList.map (fun f=>(f.offset,f.type))=fs∧fields.toList.all (fun f=>w7 P f.type)=true∧sa P fs 0=true:=by
 unfold TD.fitsB at h
 simp only [a₁] at h
 obtain⟨_,h⟩:=h
 cases hu:P.underlying t with
 | none=>simp [hu] at h
 | some d=>
  cases d <;> simp only [hu,c₂,a₁,decide_eq_true_eq] at h
  exact⟨_,rfl,h.1.1,h.1.2,h.2⟩
theorem TD.fits_some {P:Program} {t:TypeId} {d:TD} (h:d.fitsB P t=true): ∃x,P.underlying t=some x:=by
 unfold TD.fitsB at h;simp only [a₁] at h;obtain⟨_,h⟩:=h;cases hu:P.underlying t with
 | none=>simp [hu] at h
 | some x=>exact ⟨x,rfl⟩
end
section
def Kb {α:Type}:List α→Nat→Option α
 | [],_=>none
 | x :: _,0=>some x
 | _ :: l,n + 1=>Kb l n
theorem se {α:Type}: ∀(l:List α) (n:Nat),Kb l n=l[n]?
 | [],_=>by simp [Kb]
 | x :: l,0=>rfl
 | x :: l,n + 1=>by simp [Kb,se l n]
def vk {α:Type}:List α→Nat→α→Option (List α)
 | [],_,_=>none
 | _ :: l,0,v=>some (v :: l)
 | x :: l,n + 1,v=>match vk l n v with | some r=>some (x :: r) | none=>none
theorem Da {α:Type}: ∀{l:List α} {n:Nat} {v:α} {r:List α},vk l n v=some r→n < l.length∧r=l.set n v
 | [],_,_,_,h=>by simp [vk] at h
 | x :: l,0,v,r,h=>by simp [vk] at h;subst h;simp
 | x :: l,n + 1,v,r,h=>by
  simp only [vk] at h
  split at h
  ·rename_i r' hr
   obtain⟨h1,h2⟩:=Da hr
   injection h with h
   subst h;subst h2
   simp;exact h1
  ·cases h
def OV:SV→List SV
 | .val (.agg ⟨l⟩)=>l.map SV.val
 | v=> [v]
def Kc:GV→Nat→List SV→(GV→Prop)→Prop
 | [],_,_,K=>K []
 | (j,kb) :: M,i,cs,K=>bif a₀ j i then K ((j,⟨kb.g,kb.t,cs⟩) :: M) else Kc M i cs fun r=>K ((j,kb) :: r)
def Kd:List SV→(List Value→Prop)→Prop
 | [],K=>K []
 | .val v :: l,K=>Kd l fun r=>K (v :: r)
 | .ptr _ g off :: l,K=>Kd l fun r=>K (.pointer (some ⟨g,off,none⟩) :: r)
 | .lit b :: l,K=>Kd l fun r=>K (.bool b :: r)
def O7:Nat→List SV→List SV
 | 0,_=> []
 | _,[] => []
 | n + 1,x :: l=>x :: O7 n l
def O8:Nat→List SV→List SV
 | 0,l=>l
 | _,[] => []
 | n + 1,_ :: l=>O8 n l
def NZ (l:List SV):List SV→List SV
 | [] =>l
 | r=>l ++ r
def Ke (cs:List SV) (off:Nat) (l:List Value) (n:Nat):List SV:=O7 off cs ++ NZ (l.map SV.val) (O8 (off + n) cs)
def k9:List Nat→List Value→List (List Value)
 | [],_=> []
 | n :: ns,z=>tk n z :: k9 ns (dp n z)
where
 tk:Nat→List Value→List Value
  | 0,_=> []
  | _,[] => []
  | n + 1,x :: l=>x :: tk n l
 dp:Nat→List Value→List Value
  | 0,l=>l
  | _,[] => []
  | n + 1,_ :: l=>dp n l
def vn:List (List Value)→List Value
 | [] => []
 | l :: ls=>app l (vn ls)
where
 app:List Value→List Value→List Value
  | [],r=>r
  | x :: l,r=>x :: app l r
def iQ:Value→List Value
 | .agg ⟨l⟩=>l
 | v=> [v]
def n9 (T:bf):List (Nat×TypeId)→Option (List Nat)
 | [] =>some []
 | (_,t) :: fs=>match bf.find T t with
  | some d=>match n9 T fs with | some r=>some (d.size :: r) | none=>none
  | none=>none
def xa (T:bf) (t:TypeId):Option (List Nat):=match bf.find T t with
 | some (.struct fs _)=>n9 T fs
 | some (.arr n _ es)=>some (b₂ n es)
 | _=>none
def ji:List (List Value)→List (Nat×Value)→Option (List (List Value))
 | segs,[] =>some segs
 | segs,(i,v) :: r=>match vk segs i (iQ v) with
  | some segs'=>ji segs' r
  | none=>none
def oc:List Nat→List (Nat×Value)→Prop
 | _,[] =>True
 | ns,(i,v) :: r=>Kb ns i=some (iQ v).length∧oc ns r
section
variable (P:Program) (T:bf) (E:NW) (M:GV) (H:Ka)
abbrev GW:=SV→GV→Ka→Prop
def PK (t:TypeId) (p:SV) (K:GW):Prop:=match bf.find T t with
 | none=>False
 | some d=>match p with
  | .ptr i g off=>match M.find i with
   | none=>False
   | some kb=>match d.agg with
    | false=> ∃v,Kb kb.cs off=some v∧kb.g=g∧K v M H
    | true=>d₁ (off + d.size) kb.cs.length=true∧kb.g=g∧Kd (O7 d.size (O8 off kb.cs)) fun l=>K (.val (.agg ⟨l⟩)) M H
  | .val (.pointer (some a))=> ∃v,(∀w,A M H w→(loadVar t a).run P w= .ok v w)∧K (.val v) M H
  | _=>False
def O9 (t:TypeId) (p v:SV) (K:GW):Prop:=match bf.find T t with
 | none=>False
 | some d=>match p with
  | .ptr i g off=>match M.find i with
   | none=>False
   | some kb=>match d.agg with
    | false=> ∃cs,vk kb.cs off v=some cs∧kb.g=g∧v.den.oneCell'=true∧Kc M i cs fun M'=>K (.val undef) M' H
    | true=>match v with
     | .val (.agg ⟨l⟩)=>l.length=d.size∧d₁ (off + d.size) kb.cs.length=true∧kb.g=g∧l.all (·.oneCell')=true∧Kc M i (Ke kb.cs off l d.size) fun M'=>K (.val undef) M' H
     | _=>False
  | .val (.pointer (some ⟨b,off,none⟩))=>match d.agg with
   | false=> ∃i kb,M.find i=some kb∧kb.g=b∧∃cs,vk kb.cs off v=some cs∧v.den.oneCell'=true∧Kc M i cs fun M'=>K (.val undef) M' H
   | true=>False
  | _=>False
def Ms (t:TypeId) (x ix:SV) (K:GW):Prop:=match bf.find T t with
 | some (.slice _ es)=>match x,ix with
  | .val (.slice A len _), .val (.int _ n)=> ∃b o k:Nat,A=some ⟨b,o,none⟩∧n=(k:Int)∧k < len∧K (.val (.pointer (some ⟨b,o + k * es,none⟩))) M H
  | _,_=>False
 | some (.arr len _ es)=>match x,ix with
  | .ptr i g off, .val (.int _ n)=> ∃k:Nat,n=(k:Int)∧k < len∧K (.ptr i g (off + k * es)) M H
  | .val (.pointer (some ⟨b,off,none⟩)), .val (.int _ n)=> ∃k:Nat,n=(k:Int)∧k < len∧K (.val (.pointer (some ⟨b,off + k * es,none⟩))) M H
  | _,_=>False
 | _=>False
def xb (op:BinOp) (k:IntKind) (m n:Int) (K:Value→Prop):Prop:=match op with
 | .add=> ∃r,k.wrap (m + n)=r∧K (.int k r)
 | .sub=> ∃r,k.wrap (m - n)=r∧K (.int k r)
 | .mul=> ∃r,k.wrap (m * n)=r∧K (.int k r)
 | .quo=>n≠0∧∃r,k.wrap (m.tdiv n)=r∧K (.int k r)
 | .rem=>n≠0∧∃r,m.tmod n=r∧K (.int k r)
 | .eql=>K (.bool (m == n))
 | .neq=>K (.bool (m !=n))
 | .lss=>K (.bool (decide (m < n)))
 | .leq=>K (.bool (decide (m≤n)))
 | .gtr=>K (.bool (decide (n < m)))
 | .geq=>K (.bool (decide (n≤m)))
 | .shl=>0≤n∧∃r,k.wrap (m * 2 ^ (min n.toNat k.bits))=r∧K (.int k r)
 | .shr=>0≤n∧∃r,m.fdiv (2 ^ (min n.toNat k.bits))=r∧K (.int k r)
 | .and=> ∃r,k.wrap (BitVec.ofInt k.bits m &&& BitVec.ofInt k.bits n).toNat=r∧K (.int k r)
 | .or=> ∃r,k.wrap (BitVec.ofInt k.bits m ||| BitVec.ofInt k.bits n).toNat=r∧K (.int k r)
 | .xor=> ∃r,k.wrap (BitVec.ofInt k.bits m ^^^ BitVec.ofInt k.bits n).toNat=r∧K (.int k r)
 | .andNot=> ∃r,k.wrap (BitVec.ofInt k.bits m &&& ~~~BitVec.ofInt k.bits n).toNat=r∧K (.int k r)
def xc (op:BinOp) (s t:ByteArray) (K:Value→Prop):Prop:=match op with
 | .add=>s.size + t.size≤9223372036854775807∧K (.string (s ++ t))
 | .eql=>K (.bool (s.toList == t.toList))
 | .neq=>K (.bool (!(s.toList == t.toList)))
 | .lss=>K (.bool (Op.bytesLess s.toList t.toList))
 | .leq=>K (.bool (Op.bytesLess s.toList t.toList || s.toList == t.toList))
 | .gtr=>K (.bool (!(Op.bytesLess s.toList t.toList || s.toList == t.toList)))
 | .geq=>K (.bool (!Op.bytesLess s.toList t.toList))
 | _=>False
def rM (op:BinOp) (s t:Bool) (K:Value→Prop):Prop:=match op with
 | .eql=>K (.bool (s == t))
 | .neq=>K (.bool (s !=t))
 | _=>False
def EF:IntKind→Nat
 | .i8=>0 | .i16=>1 | .i32=>2 | .i64=>3 | .u8=>4 | .u16=>5 | .u32=>6 | .u64=>7
theorem Db {k j:IntKind} (h:a₀ (EF k) (EF j)=true):k=j:=by
 cases k <;> cases j <;> first | rfl | cases h
def oe:BinOp→Bool
 | .shl | .shr=>true
 | _=>false
def ju (t:TypeId) (yo:Operand) (x y:SV):Option Bool:=match y,bf.find T t with
 | .val (.pointer none),some .ptr=>match x with
  | .ptr _ _ _=>some false
  | .val (.pointer none)=>some true
  | .val (.pointer (some _))=>some false
  | _=>none
 | .val .nilIface,some .iface=>match yo with
  | .const _=>match x with
   | .val .nilIface=>some true
   | .val (.iface _ _)=>some false
   | _=>none
  | _=>none
 | .val (.slice none _ _),some (.slice _ _)=>match x with
  | .val (.slice none _ _)=>some true
  | .val (.slice (some _) _ _)=>some false
  | _=>none
 | _,_=>none
def xd (t:TypeId) (parts:List (Nat×Value)) (K:GW):Prop:=
 match bU T 9 t [],xa T t with
 | some z,some ns=>match a₀ z.length ns.sum,ji (k9 ns (z.map SV.den)) parts with
  | true,some segs=>oc ns parts∧K (.val (.agg (vn segs).toArray)) M H
  | _,_=>False
 | _,_=>False
def og:Nat→List SV→List SV
 | 0,_=> []
 | n + 1,z=>z ++ og n z
end
end
section
theorem den_val (v:Value):(SV.val v).den=v:=rfl
section
variable {P:Program} {T:bf} {E:NW} {M:GV} {H:Ka} {K:GW} {N:Nat} {a:Act} {w:World}
theorem Bs {op:BinOp} {k k':IntKind} {m n:Int} {t:TypeId} {xo yo:Operand} {K':Value→Prop} (hk:(oe op || a₀ (EF k) (EF k'))=true) (h:xb op k m n K') :
  ∃v:Value,(∀w,(do eqGuard op t xo yo (.int k m) (.int k' n);binOp op t (.int k m) (.int k' n):Sem Value).run P w= .ok v w)∧K' v:=by
 have hg: ∀w,(eqGuard op t xo yo (.int k m) (.int k' n)).run P w= .ok () w:=by
  intro w;cases op <;> rfl
 cases op <;> simp only [oe,Bool.false_or,Bool.true_or] at hk <;> first | (have hk:=Db hk;subst hk) | skip
 all_goals simp only [xb] at h
 case quo=>obtain ⟨h0,r,rfl,h⟩:=h;exact⟨_,fun w=>by simp [hg,binOp,Op.intDiv,h0],h⟩
 case rem=>obtain ⟨h0,r,rfl,h⟩:=h;exact⟨_,fun w=>by simp [hg,binOp,Op.intDiv,h0],h⟩
 case shl=>obtain ⟨h0,r,rfl,h⟩:=h;exact⟨_,fun w=>by simp [hg,binOp,Op.shift,show ¬ n < 0 by omega],h⟩
 case shr=>obtain ⟨h0,r,rfl,h⟩:=h;exact⟨_,fun w=>by simp [hg,binOp,Op.shift,show ¬ n < 0 by omega],h⟩
 all_goals first
  | (obtain⟨r,rfl,h⟩:=h;exact⟨_,fun w=>by simp [hg,binOp,Op.intArith,Op.intBits],h⟩)
  | exact⟨_,fun w=>by simp [hg,binOp,Op.intCmp],h⟩
theorem Bu {op:BinOp} {x y:ByteArray} {t:TypeId} {xo yo:Operand} {K':Value→Prop} (h:xc op x y K') :
  ∃v:Value,(∀w,(do eqGuard op t xo yo (.string x) (.string y);binOp op t (.string x) (.string y):Sem Value).run P w= .ok v w)∧K' v:=by
 have hg: ∀w,(eqGuard op t xo yo (.string x) (.string y)).run P w= .ok () w:=by
  intro w;cases op <;> rfl
 cases op <;> simp only [xc] at h
 case add=>
  obtain⟨h0,h⟩:=h
  have hle: ¬ ((x.size + y.size:Nat):Int) > IntKind.i64.max:=by
   have:IntKind.i64.max=9223372036854775807:=by decide
   omega
  exact⟨_,fun w=>by simp [hg,binOp,Op.stringOp] at hle ⊢;omega,h⟩
 all_goals first
  | exact⟨_,fun w=>by simp [hg,binOp,Op.stringOp],h⟩
  | exact h.elim
theorem yN {op:BinOp} {x y:Bool} {t:TypeId} {xo yo:Operand} {K':Value→Prop} (ht:P.underlying t=some .bool) (h:rM op x y K') :
  ∃v:Value,(∀w,(do eqGuard op t xo yo (.bool x) (.bool y);binOp op t (.bool x) (.bool y):Sem Value).run P w= .ok v w)∧K' v:=by
 have hg: ∀w,(eqGuard op t xo yo (.bool x) (.bool y)).run P w= .ok () w:=by
  intro w;cases op <;> rfl
 cases op <;> simp only [rM] at h <;> first
  | exact⟨_,fun w=>by simp [hg,binOp,run_equal_bool w t x y ht,bne],h⟩
  | exact h.elim
theorem Dc {t:TypeId} {xo yo:Operand} {u v:Value} {b:Bool} (h: ∀d,(Op.equalIn (d + 1) t u v).run P w= .ok b w) (hg: ∀op,(eqGuard op t xo yo u v).run P w= .ok () w)
  (h1:binOp .eql t u v=(do pure (.bool (← Op.equal t u v)))) (h2:binOp .neq t u v=(do pure (.bool (!(← Op.equal t u v))))) :
  (do eqGuard .eql t xo yo u v;binOp .eql t u v:Sem Value).run P w= .ok (.bool b) w∧(do eqGuard .neq t xo yo u v;binOp .neq t u v:Sem Value).run P w= .ok (.bool (!b)) w:=by
 have he:(Op.equal t u v).run P w= .ok b w:=h 9999
 constructor
 ·rw [Sem.run_bind,hg,Result.andThen_ok,h1,Sem.run_bind,he];rfl
 ·rw [Sem.run_bind,hg,Result.andThen_ok,h2,Sem.run_bind,he];rfl
theorem sg (hT:bL P T) {t:TypeId} {xo yo:Operand} {x y:SV} {b:Bool} (h:ju T t yo x y=some b) (w:World) :
  (do eqGuard .eql t xo yo x.den y.den;binOp .eql t x.den y.den:Sem Value).run P w= .ok (.bool b) w∧(do eqGuard .neq t xo yo x.den y.den;binOp .neq t x.den y.den:Sem Value).run P w= .ok (.bool (!b)) w:=by
 unfold ju at h
 split at h
 ·rename_i hd
  have hu:(∃e,P.underlying t=some (.pointer e))∨P.underlying t=some .unsafePointer:=by
   have hf:=hT.fits hd
   unfold TD.fitsB at hf
   simp only [a₁] at hf
   obtain⟨_,hf⟩:=hf
   cases hu:P.underlying t with
   | none=>simp [hu] at hf
   | some d=>cases d <;> simp_all
  rcases hu with ⟨e,hu⟩ | hu
  ·split at h <;> first | (cases h;done) | (injection h with h;subst h;exact Dc (fun d=>by simp [Op.equalIn,run_underlying hu,SV.den]) (fun op=>by cases op <;> simp [eqGuard,SV.den]) rfl rfl)
  ·split at h <;> first | (cases h;done) | (injection h with h;subst h;exact Dc (fun d=>by simp [Op.equalIn,run_underlying hu,SV.den,samePointer]) (fun op=>by cases op <;> simp [eqGuard,SV.den]) rfl rfl)
 ·rename_i hd
  have hu: ∃e,P.underlying t=some (.interface e):=by
   have hf:=hT.fits hd
   unfold TD.fitsB at hf
   simp only [a₁] at hf
   obtain⟨_,hf⟩:=hf
   cases hu:P.underlying t with
   | none=>simp [hu] at hf
   | some d=>cases d <;> simp_all
  obtain⟨e,hu⟩:=hu
  split at h
  ·split at h <;> first | (cases h;done) | (injection h with h;subst h;exact Dc (fun d=>by simp [Op.equalIn,run_underlying hu,SV.den]) (fun op=>by cases op <;> simp [eqGuard,SV.den]) rfl rfl)
  ·cases h
 ·rename_i hd
  have hu:=(TD.fits_slice (hT.fits hd)).1
  split at h <;> first | (cases h;done) | (injection h with h;subst h;exact Dc (fun d=>by simp [Op.equalIn,run_underlying hu,SV.den]) (fun op=>by cases op <;> simp [eqGuard,SV.den]) rfl rfl)
 ·cases h
theorem lq {j:IntKind} {n y:Nat} {code:BoundsCode} (h:n≤y) (w:World):(Instr.sliceBound (.int j (n:Int)) y code).run P w= .ok n w:=by
 have h0:(0:Int)≤(n:Int)∧(n:Int)≤(y:Int):=⟨om,om⟩;simp only [Instr.sliceBound,asIntOf,Sem.run_bind,Sem.run_pure,Result.andThen_ok,h0,and_self,if_true,c₈]
theorem dD {b:Bool} {len cap l h:Nat} {lo hi:Option Value} (hlo:lo=none∧l=0∨∃j,lo=some (.int j l)) (hhi:hi=none∧h=len∨∃j,hi=some (.int j h)) (h1:l≤h) (h2:h≤cap) (w:World) :
  (Instr.sliceBounds b len cap lo hi none).run P w= .ok (l,h,cap) w:=by
 rcases hhi with ⟨rfl,rfl⟩ | ⟨j,rfl⟩ <;> rcases hlo with ⟨rfl,rfl⟩ | ⟨j',rfl⟩ <;>
  simp [Instr.sliceBounds,lq h1,lq h2]
theorem flat_app (l r:List Value):vn.app l r=l ++ r:=by
 induction l with
 | nil=>rfl
 | cons x l ih=>simp [vn.app,ih]
theorem Dd (ls:List (List Value)):vn ls=ls.flatten:=by
 induction ls with
 | nil=>rfl
 | cons l ls ih=>simp [vn,flat_app,ih]
theorem cutBy_tk (n:Nat) (l:List Value):k9.tk n l=l.take n:=by
 induction n generalizing l with
 | zero=>cases l <;> rfl
 | succ n ih=>cases l <;> simp [k9.tk,ih]
theorem cutBy_dp (n:Nat) (l:List Value):k9.dp n l=l.drop n:=by
 induction n generalizing l with
 | zero=>cases l <;> rfl
 | succ n ih=>cases l <;> simp [k9.dp,ih]
theorem nA: ∀(ns:List Nat) (z:List Value),z.length=ns.sum→(k9 ns z).flatten=z∧(k9 ns z).map a₇=ns
 | [],z,h=>by simp at h;subst h;simp [k9]
 | n :: ns,z,h=>by
  simp at h
  obtain⟨h1,h2⟩:=nA ns (z.drop n) (by simp;omega)
  simp only [k9,cutBy_tk,cutBy_dp,a₉,h1,c₅,d₉,h2,a₅,true_and]
  congr 1
  omega
theorem qL: ∀(segs:List (List Value)) (i:Nat) (c:List Value) (s:List Value),segs[i]? =some s→c.length=s.length→
  (segs.set i c).flatten=segs.flatten.take ((segs.map a₇).take i).sum ++ c ++ segs.flatten.drop (((segs.map a₇).take i).sum + c.length)
 | [],i,c,s,h,_=>by simp at h
 | l :: ls,0,c,s,h,hc=>by
  simp at h;subst h
  simp [hc]
 | l :: ls,i + 1,c,s,h,hc=>by
  simp at h
  have ih:=qL ls i c s h hc
  simp only [g₃,a₉,ih,d₉,d₃,List.sum_cons,List.take_append,List.drop_append]
  have e1:l.take (l.length + ((ls.map a₇).take i).sum)=l:=d₈ om
  have e2:l.drop (l.length + ((ls.map a₇).take i).sum + c.length)= [] :=List.drop_of_length_le om
  rw [e1,e2]
  simp [show l.length + ((ls.map a₇).take i).sum - l.length=((ls.map a₇).take i).sum by omega,show l.length + ((ls.map a₇).take i).sum + c.length - l.length=((ls.map a₇).take i).sum + c.length by omega]
theorem qM (off:Nat): ∀(vs:List Value) (j:Nat) (cs:Array Value),off + j + vs.length≤cs.size→
  (vs.zipIdx j).foldl (fun cs (c,j)=>cs.setIfInBounds (off + j) c) cs=(cs.toList.take (off + j) ++ vs ++ cs.toList.drop (off + j + vs.length)).toArray
 | [],j,cs,_=>by simp
 | v :: vs,j,cs,h=>by
  simp only [List.zipIdx_cons,List.foldl_cons]
  rw [qM off vs (j + 1) _ (by simp at h ⊢;omega)]
  simp at h
  congr 1
  apply c₉
  intro k
  simp only [Array.toList_setIfInBounds,List.getElem?_append,a₅,List.length_set,Array.length_toList,c₃,d₇,c₄,a₆,g₈]
  by_cases h1:k < off + j
  ·simp [h1,show k < off + (j + 1) by omega,show min (off + (j + 1)) cs.size=off + (j + 1) by omega,show min (off + j) cs.size=off + j by omega,show ¬ off + j=k by omega,show k < off + (j + 1) + vs.length by omega,show k < off + j + (vs.length + 1) by omega]
  ·by_cases h2:k=off + j
   ·subst h2
    simp [show min (off + (j + 1)) cs.size=off + (j + 1) by omega,show min (off + j) cs.size=off + j by omega,show off + j < off + (j + 1) by omega,show off + j < cs.size by omega,show off + j < off + (j + 1) + vs.length by omega]
   ·simp only [show min (off + (j + 1)) cs.size=off + (j + 1) by omega,show min (off + j) cs.size=off + j by omega,h1,if_false,show ¬ k < off + (j + 1) by omega]
    by_cases h3:k < off + (j + 1) + vs.length
    ·simp [h3,show k < off + j + (vs.length + 1) by omega,show k - (off + j)=(k - (off + (j + 1))) + 1 by omega]
    ·simp [h3,show ¬ k < off + j + (vs.length + 1) by omega,
      show off + (j + 1) + vs.length + (k - (off + (j + 1) + vs.length))=off + j + (vs.length + 1) + (k - (off + j + (vs.length + 1))) by omega]
     intro h'
     omega
theorem GX {α:Type} {l:List α} {i:Nat} {x:α} (h:l[i]? =some x):l.set i x=l:=by
 apply c₉;intro k;rw [d₇];by_cases e:i=k
 ·subst e;obtain⟨h1,h2⟩:=a₃.1 h;simp [h1,h2]
 ·simp [e]
theorem pM (v:Value):v.cells.toList=iQ v:=by
 cases v <;> rfl
theorem pN {place:Nat→Option (Nat×Nat)} {ns:List Nat} (hp: ∀i n,ns[i]? =some n→place i=some ((ns.take i).sum,n)): ∀(parts:List (Nat×Value)) (segs segs':List (List Value)),
  segs.map a₇=ns→ji segs parts=some segs'→oc ns parts→Instr.fill place segs.flatten.toArray parts=some segs'.flatten.toArray
 | [],segs,segs',_,h,_=>by simp [ji] at h;subst h;simp [Instr.fill]
 | (i,v) :: parts,segs,segs',hns,h,hf=>by
  simp only [ji] at h
  split at h
  ·rename_i s1 hs1
   obtain⟨hlt,rfl⟩:=Da hs1
   obtain⟨hn,hf⟩:=hf
   rw [se] at hn
   have hpl:=hp i _ hn
   have hseg:segs[i]? =some (segs[i]'hlt):=a₄ hlt
   have hlen:(iQ v).length=(segs[i]'hlt).length:=by
    rw [← hns,b₀,hseg] at hn
    simpa using hn.symm
   have hsz:v.cells.size=(iQ v).length:=by rw [← pM,Array.length_toList]
   have hsp:=qL segs i (iQ v) _ hseg hlen
   have hbound:(ns.take i).sum + (iQ v).length≤segs.flatten.length:=by
    rw [e₄,hns]
    have h1:ns=ns.take i ++ ns.drop i:=(c₅ i ns).symm
    have h2:ns.drop i=(iQ v).length :: ns.drop (i + 1):=by
     have hi:=(a₃.1 hn)
     obtain⟨hi1,hi2⟩:=hi
     rw [f₀ hi1,hi2]
    have h3:ns.sum=(ns.take i).sum + (ns.drop i).sum:=by rw [← List.sum_append,c₅]
    rw [h3,h2,List.sum_cons]
    omega
   have ih:=pN hp parts (segs.set i (iQ v)) segs' (by rw [List.map_set,hns,GX hn]) h hf
   simp only [Instr.fill,hpl,hsz,ne_eq,not_true_eq_false,decide_false,Bool.false_or,d₀]
   rw [if_neg (by rw [e₄] at hbound;simp [e₄];omega)]
   have hfold:=qM (ns.take i).sum v.cells.toList 0 segs.flatten.toArray (by rw [Array.length_toList,hsz];simpa using hbound)
   have hz:Array.foldl (fun cs (x:Value×Nat)=>cs.setIfInBounds ((ns.take i).sum + x.2) x.1) segs.flatten.toArray v.cells.zipIdx=(segs.set i (iQ v)).flatten.toArray:=by
    rw [← Array.foldl_toList,Array.toList_zipIdx]
    refine Eq.trans hfold ?_
    rw [pM,hsp,hns]
    simp
   rw [show (Array.foldl (fun cs x=>match x with | (c,j)=>cs.setIfInBounds ((ns.take i).sum + j) c) segs.flatten.toArray v.cells.zipIdx)=_ from hz]
   exact ih
  ·cases h
structure Seat (P:Program) (T:bf) (ents:List FuncId):Prop where
 tab:bL P T
 enters: ∀f∈ents,∀args w,(callFunc f args).run P w= .ok (.enter f args) w
 mixed:P.follows .mixedOrders=true
theorem sh (hT:bL P T): ∀{fs:List (Nat×TypeId)} {ns:List Nat},n9 T fs=some ns→fs.length=ns.length∧∀(i o t:Nat),fs[i]? =some (o,t)→∃n,ns[i]? =some n∧fa P t n=true
 | [],ns,h=>by simp [n9] at h;subst h;simp
 | (o,t) :: fs,ns,h=>by
  simp only [n9] at h
  split at h
  ·rename_i d hd
   split at h
   ·rename_i r hr
    obtain⟨h1,h2⟩:=sh hT hr
    injection h with h;subst h
    refine⟨by simp [h1],fun i o' t' hi=>?_⟩
    cases i with
    | zero=>simp at hi;obtain⟨rfl,rfl⟩:=hi;exact⟨_,rfl,TD.fits_size (hT.fits hd)⟩
    | succ i=>exact h2 i o' t' (by simpa using hi)
   ·cases h
  ·cases h
theorem si {P:Program}: ∀{fs:List (Nat×TypeId)} {ns:List Nat} {b:Nat},sa P fs b=true→fs.length=ns.length→(∀(i o t:Nat),fs[i]? =some (o,t)→∃n,ns[i]? =some n∧fa P t n=true)→
  ∀(i o t:Nat),fs[i]? =some (o,t)→o=b + (ns.take i).sum
 | [],ns,b,_,_,_,i,o,t,hi=>by simp at hi
 | (o0,t0) :: fs,[],b,_,hl,_,i,o,t,hi=>by simp at hl
 | (o0,t0) :: fs,n0 :: ns,b,h,hl,hs,i,o,t,hi=>by
  simp only [sa,a₁,beq_iff_eq] at h
  obtain⟨h1,h2⟩:=h
  cases hinfo:P.info? t0 with
  | none=>simp [hinfo] at h2
  | some inf=>
   simp only [hinfo] at h2
   obtain⟨n,hn,hsz⟩:=hs 0 o0 t0 rfl
   simp at hn;subst hn
   have hn0:inf.size=n0:=by simpa [fa,hinfo] using hsz
   cases i with
   | zero=>simp at hi;obtain⟨rfl,rfl⟩:=hi;simp [h1]
   | succ i=>
    have:=si h2 (by simpa using hl) (fun i o t hi=>by simpa using hs (i + 1) o t (by simpa using hi)) i o t (by simpa using hi)
    rw [this,hn0];simp;omega
theorem sj {P:Program}: ∀{fs:List Field} {ns:List Nat},fs.length=ns.length→(∀(i:Nat) (f:Field),fs[i]? =some f→∃n,ns[i]? =some n∧fa P f.type n=true)→
  ∃pl,fs.mapM (fun f=>(P.info? f.type).map fun i=>(f.offset,i.size))=some pl∧pl=(fs.zip ns).map fun x=>(x.1.offset,x.2)
 | [],[],_,_=>⟨[],sm,rfl⟩
 | [],_ :: _,h,_=>by simp at h
 | _ :: _,[],h,_=>by simp at h
 | f :: fs,n :: ns,h,hs=>by
  obtain⟨pl,h1,h2⟩:=sj (by simpa using h) (fun i f hi=>by simpa using hs (i + 1) f (by simpa using hi))
  obtain⟨n',hn,hsz⟩:=hs 0 f rfl
  simp at hn;subst hn
  unfold fa at hsz
  split at hsz
  ·rename_i inf hinf
   have hsz':inf.size=n:=by simpa using hsz
   exact⟨(f.offset,n) :: pl,by simp [hinf,h1,hsz'],by simp [h2]⟩
  ·cases hsz
theorem Bv (hT:bL P T) {t:TypeId} {parts:List (Nat×Value)} (h:xd T M H t parts K): ∃v:SV,(∀w,A M H w→(Instr.build t parts.toArray).run P w= .ok v.den w)∧K v M H:=by
 unfold xd at h;split at h
 ·rename_i z ns hz hns;split at h
  ·rename_i segs hlen hsegs;have hlen:=a₂ hlen;obtain⟨hfit,hK⟩:=h;refine⟨.val (.agg (vn segs).toArray),fun w _=>?_,hK⟩;obtain⟨zv,hzv,hzc⟩:=hT.zero hz w;have hzi: ∃it,P.info? t=some it∧it.zero=some zv:=by
    cases hi:P.info? t with
    | none=>simp [zeroValue,typeInfo,hi,stuck] at hzv
    | some it=>
     cases hv:it.zero with
     | none=>simp [zeroValue,typeInfo,hi,hv,unsupported] at hzv
     | some v=>simp [zeroValue,typeInfo,hi,hv] at hzv;subst hzv;exact⟨it,rfl,hv⟩
   obtain⟨it,hit,hitz⟩:=hzi;have hzcells:zv.cells=(z.map SV.den).toArray:=by rw [← hzc]
   have core: ∀(place:Nat→Option (Nat×Nat)),(∀i n,ns[i]? =some n→place i=some ((ns.take i).sum,n))→
     Instr.fill place (z.map SV.den).toArray parts=some (vn segs).toArray:=by
    intro place hp
    obtain⟨hc1,hc2⟩:=nA ns (z.map SV.den) (by simpa using hlen)
    have:=pN hp parts _ segs hc2 hsegs hfit
    rw [hc1] at this
    rw [this,Dd]
   refine run_build w t parts.toArray _ ?_;unfold xa at hns;split at hns
   ·rename_i fs sz hd;obtain⟨fields,hu,h3,_,h5⟩:=TD.fits_struct (hT.fits hd);obtain⟨h6,h7⟩:=sh hT hns;have hoff:=si h5 h6 h7;have hfield: ∀(i:Nat) (f:Field),fields.toList[i]? =some f→fs[i]? =some (f.offset,f.type):=by
     intro i f hi;rw [← h3,b₀,hi];rfl
    obtain⟨pl,h8,h9⟩:=sj (P:=P) (fs:=fields.toList) (ns:=ns) (by rw [← h6,← h3,c₀]) (fun i f hi=>h7 i _ _ (hfield i f hi));simp only [Program.built,hit,hu,hitz,h8,hzcells];refine core _ fun i n hn=>?_
    have hi:i < fields.toList.length:=by
     have:=(a₃.1 hn).1;rw [← h6,← h3,c₀] at this;exact this
    have hf:=a₄ hi;have ho:=hoff i _ _ (hfield i _ hf);subst h9;have hz2:(fields.toList.zip ns)[i]? =some (fields.toList[i],n):=List.getElem?_zip_eq_some.2 ⟨hf,hn⟩;simp only [List.getElem?_toArray,b₀,hz2,Option.map_some];rw [ho];simp
   ·rename_i n e es hd;obtain⟨hu,hs⟩:=TD.fits_arr (hT.fits hd);injection hns with hns
    subst hns;unfold fa at hs;split at hs
    ·rename_i ie hie;have hse:ie.size=es:=by simpa using hs
     simp only [Program.built,hit,hu,hitz,hie,hzcells];refine core _ fun i m hm=>?_
     rw [f₄] at hm;split at hm
     ·injection hm with hm
      subst hm;rename_i hin;rw [g₀,f₇,hse,b₉ om]
     ·cases hm
    ·cases hs
   ·cases hns
  ·exact h.elim
 ·exact h.elim
theorem qN (n:Nat) (z:List SV):(og n z).length=n * z.length:=by
 induction n with
 | zero=>simp [og]
 | succ n ih=>simp [og,ih,f₂,Nat.add_comm]
theorem yO (z:List SV) (hz:0 < z.length): ∀(n k:Nat),k < n * z.length→(og n z)[k]? =z[k % z.length]?
 | 0,k,h=>by omega
 | n + 1,k,h=>by
  simp only [og]
  by_cases hk:k < z.length
  ·rw [b₃ hk,g₉ hk]
  ·rw [b₈ om,yO z hz n (k - z.length) (by rw [f₂] at h;omega)]
   congr 1
   exact(Nat.mod_eq_sub_mod om).symm
theorem nB {n es:Nat} {z:List SV} {zc:Array Value} (hz:zc=(z.map SV.den).toArray) (hl:z.length=es) (h0:0 < es) :
  ((Array.range (n * es)).map (zc[· % zc.size]!))=((og n z).map SV.den).toArray:=by
 subst hz
 apply Array.ext
 ·simp [qN,hl]
 ·intro k h1 h2
  have hk:k < n * es:=by simpa using h1
  have hlt:k % z.length < z.length:=Nat.mod_lt _ om
  have hg:=yO z om n k (by rw [hl];exact hk)
  simp only [Array.getElem_map,Array.getElem_range,d₀,c₀,List.getElem_toArray]
  rw [a₄ (by rw [qN,hl];exact hk),a₄ hlt] at hg
  injection hg with hg
  rw [List.getElem_map,hg,getElem!_pos _ _ (by simpa using hlt)]
  simp
theorem PR (hT:bL P T) {t:TypeId} {d:TD} (hd:bf.find T t=some d) (ha:d.agg=false) {w w':World} {b o p j:Nat} {cs:List Value} {v:Value} (hr:w.rangeAt b o cs) (hj:cs[j]? =some v) (hp:p=o + j) (hb:Below w.heap.size w w') :
  (loadVar t ⟨b,p,none⟩).run P w'= .ok v w':=by
 subst hp
 have hr':=nZ (w':=w') hr (fun h=>hb.block b h)
 have hc:=hr' j v hj
 simp [loadVar,TD.fits_agg (hT.fits hd),ha,load,hc,Sem.run,Sem.run_bind]
theorem PS (hT:bL P T) {t:TypeId} {d:TD} (hd:bf.find T t=some d) (ha:d.agg=true) {w w':World} {b o:Nat} {cs:List Value} (hl:cs.length=d.size) (hr:w.rangeAt b o cs) (hb:Below w.heap.size w w') :
  (loadVar t ⟨b,o,none⟩).run P w'= .ok (.agg ⟨cs⟩) w':=by
 have hr':=nZ (w':=w') hr (fun h=>hb.block b h)
 have hl2:(loadCells ⟨b,o,none⟩ cs.length).run P w'= .ok cs.toArray w':=
  run_loadCells_list (P:=P) w' ⟨b,o,none⟩ _ (fun j v hv=>by rw [Addr.add_mid];exact hr' j v hv)
 rw [hl] at hl2
 simp only [loadVar,Sem.run_bind,Sem.run_pure,Result.andThen_ok,TD.fits_agg (hT.fits hd),ha,if_true,bj (TD.fits_size (hT.fits hd)),hl2]
end
end
section
inductive MV where
 | int (k:IntKind) (n:Int)
 | bool (b:Bool)
 | str (s:List UInt8)
 | nilp
 | ptr (c es k fo:Nat) (path:List Nat)
 | gp (g off:Nat)
 | ep (v:MV) (fo:Nat) (path:List Nat)
 | sl (n:Nat) (l:List MV)
 | nils
 | ms (c es off n:Nat)
 | fn (f:FuncId) (caps:List MV)
 | nilf
 | nili
 | ifc (t:TypeId) (v:MV)
 | st (l:List MV)
 | arr (n es:Nat) (l:List MV)
 | tup (l:List MV)
 | mp (c:Nat)
 | mpv (ks vs:List MV)
 | undef
 deriving Inhabited
mutual
def MV.size:MV→Nat
 | .st l=>MV.sizes l
 | .arr n es _=>n * es
 | .mpv .. =>0
 | _=>1
def MV.sizes:List MV→Nat
 | [] =>0
 | m :: l=>MV.size m + MV.sizes l
end
def MV.isAgg:MV→Bool
 | .st _=>true
 | .arr .. =>true
 | _=>false
mutual
def MV.idFree:MV→Bool
 | .ptr .. =>false
 | .ms .. =>false
 | .fn _ l=>MV.idFrees l
 | .ifc _ v=>MV.idFree v
 | .st l=>MV.idFrees l
 | .tup _=>false
 | .mp _=>false
 | .mpv .. =>false
 | .undef=>false
 | _=>true
def MV.idFrees:List MV→Bool
 | [] =>true
 | m :: l=>MV.idFree m && MV.idFrees l
end
def valM (m:MV) (cs:List Value):Value:=if m.isAgg then .agg ⟨cs⟩ else cs.headD undef
abbrev dV:=Nat→Option Nat
def noAdr:dV:=fun _=>none
abbrev bC:=Nat→Nat→Prop
inductive bF (w:World) (P:bC):dV→MV→List Value→Prop where
 | int {adr k n}:bF w P adr (.int k n) [.int k n]
 | bool {adr b}:bF w P adr (.bool b) [.bool b]
 | str {adr s}:bF w P adr (.str s) [.string ⟨s.toArray⟩]
 | nilp {adr}:bF w P adr .nilp [.pointer none]
 | ptr {adr c es k fo path} (g:Nat) (h:adr c=some g):bF w P adr (.ptr c es k fo path) [.pointer (some ⟨g,k * es + fo,none⟩)]
 | gp {adr g off}:bF w P adr (.gp g off) [.pointer (some ⟨g,off,none⟩)]
 | ep {adr v fo path} (b o:Nat) (vs:List Value) (hc: ∀(j:Nat) u,vs[j]? =some u→w.cell? ⟨b,o + j,none⟩=some u∧P b (o + j)) (hr:bF w P noAdr v vs):bF w P adr (.ep v fo path) [.pointer (some ⟨b,o + fo,none⟩)]
 | sl {adr n l} (A:Option Addr) (cap es:Nat) (parts:List (List Value)) (hl:l.length=n) (hp:parts.length=n) (hes: ∀p∈parts,p.length=es) (hnn:A=none→n=0∧cap=0) (hcap:n≤cap)
   (hc:n≠0→∃b o,A=some ⟨b,o,none⟩∧∀(j:Nat) u,parts.flatten[j]? =some u→w.cell? ⟨b,o + j,none⟩=some u∧P b (o + j))
   (hr: ∀(j:Nat) m p,l[j]? =some m→parts[j]? =some p→bF w P noAdr m p):bF w P adr (.sl n l) [.slice A n cap]
 | nils {adr}:bF w P adr .nils [.slice none 0 0]
 | ms0 {adr c es}:bF w P adr (.ms c es 0 0) [.slice none 0 0]
 | ms {adr c es off n} (g o cap:Nat) (h:adr c=some g) (ho:n≠0∨off=0→o=off * es) (hcap:n≤cap) (hcap2:cap≤maxLen) (hsz: ∃cur ty,w.heap[g]? =some (.cells cur ty (0,0))∧(off=0→cur.size=cap * es)) :
   bF w P adr (.ms c es off n) [.slice (some ⟨g,o,none⟩) n cap]
 | fn {adr f caps} (parts:List (List Value)) (hp:parts.length=caps.length) (hr: ∀(j:Nat) m p,caps[j]? =some m→parts[j]? =some p→bF w P adr m p):bF w P adr (.fn f caps) [.func (.func f) #[] (List.zipWith valM caps parts).toArray]
 | nilf {adr}:bF w P adr .nilf [.nilFunc]
 | mp {adr c} (g:Nat) (h:adr c=some g):bF w P adr (.mp c) [.map (some g)]
 | nili {adr}:bF w P adr .nili [.nilIface]
 | ifc {adr t v} (cs:List Value) (hr:bF w P adr v cs):bF w P adr (.ifc t v) [.iface t (valM v cs)]
 | st {adr l} (parts:List (List Value)) (hp:parts.length=l.length) (hr: ∀(j:Nat) m p,l[j]? =some m→parts[j]? =some p→bF w P adr m p):bF w P adr (.st l) parts.flatten
 | arr {adr n es l} (parts:List (List Value)) (hl:l.length=n) (hp:parts.length=n) (hes: ∀p∈parts,p.length=es) (hr: ∀(j:Nat) m p,l[j]? =some m→parts[j]? =some p→bF w P noAdr m p):bF w P adr (.arr n es l) parts.flatten
inductive aI (w:World) (P:bC) (adr:dV):MV→Value→Prop where
 | val {m} (cs:List Value) (h:bF w P adr m cs):aI w P adr m (valM m cs)
 | undef:aI w P adr .undef undef
 | tup {l} (vs:List Value) (hl:vs.length=l.length) (h: ∀(j:Nat) m u,l[j]? =some m→vs[j]? =some u→∃cs,bF w P adr m cs∧u=valM m cs):aI w P adr (.tup l) (.tuple vs.toArray)
section
variable {w w':World} {P P':bC} {adr adr':dV} {m:MV} {vs:List Value}
structure bg (w w':World) (P P':bC) (adr adr':dV):Prop where
 prot: ∀b o,P b o→P' b o
 cell: ∀b o,P b o→w'.cell? ⟨b,o,none⟩=w.cell? ⟨b,o,none⟩
 num: ∀c g,adr c=some g→adr' c=some g
 size: ∀c g cur ty,adr c=some g→w.heap[g]? =some (.cells cur ty (0,0))→∃cur',w'.heap[g]? =some (.cells cur' ty (0,0))∧cur'.size=cur.size
theorem bg.refl (w:World) (P:bC) (adr:dV):bg w w P P adr adr:=⟨fun _ _ h=>h,fun _ _ _=>rfl,fun _ _ h=>h,fun _ _ cur _ _ h=>⟨cur,h,rfl⟩⟩
theorem bg.free (h:bg w w' P P' adr adr'):bg w w' P P' noAdr noAdr:=⟨h.prot,h.cell,fun _ _ h=>h,fun _ _ _ _ h=>nomatch h⟩
theorem bg.trans {w'':World} {P'':bC} {adr'':dV} (h:bg w w' P P' adr adr') (k:bg w' w'' P' P'' adr' adr''):bg w w'' P P'' adr adr'':=
 ⟨fun b o hp=>k.prot b o (h.prot b o hp),fun b o hp=>(k.cell b o (h.prot b o hp)).trans (h.cell b o hp),fun c g hc=>k.num c g (h.num c g hc),fun c g cur ty hc hw=>by
  obtain⟨cur1,h1,h2⟩:=h.size c g cur ty hc hw;obtain⟨cur2,h3,h4⟩:=k.size c g cur1 ty (h.num c g hc) h1;exact⟨cur2,h3,h4.trans h2⟩⟩
theorem bF.keep (h:bF w P adr m vs): ∀{adr':dV},bg w w' P P' adr adr'→bF w' P' adr' m vs:=by
 induction h with
 | int=>intro _ _;exact .int
 | bool=>intro _ _;exact .bool
 | str=>intro _ _;exact .str
 | nilp=>intro _ _;exact .nilp
 | ptr g h=>intro _ k;exact .ptr g (k.num _ _ h)
 | gp=>intro _ _;exact .gp
 | ep b o vs hc hr ih=>intro _ k;exact .ep b o vs (fun j u hj=>⟨(k.cell _ _ (hc j u hj).2).trans (hc j u hj).1,k.prot _ _ (hc j u hj).2⟩) (ih k.free)
 | sl A cap es parts hl hp hes hnn hcap hc hr ih=>
  intro _ k;refine .sl A cap es parts hl hp hes hnn hcap (fun hn=>?_) (fun j m p h1 h2=>ih j m p h1 h2 k.free);obtain⟨b,o,hA,hc⟩:=hc hn;exact⟨b,o,hA,fun j u hj=>⟨(k.cell _ _ (hc j u hj).2).trans (hc j u hj).1,k.prot _ _ (hc j u hj).2⟩⟩
 | nils=>intro _ _;exact .nils
 | ms0=>intro _ _;exact .ms0
 | ms g o cap h ho hcap hcap2 hsz=>
  intro _ k;obtain⟨cur,ty,hw,hs⟩:=hsz;obtain⟨cur',hw',hs'⟩:=k.size _ _ _ _ h hw;exact .ms g o cap (k.num _ _ h) ho hcap hcap2 ⟨cur',ty,hw',fun h0=>by rw [hs',hs h0]⟩
 | fn parts hp hr ih=>intro _ k;exact .fn parts hp fun j m p h1 h2=>ih j m p h1 h2 k
 | nilf=>intro _ _;exact .nilf
 | mp g h=>intro _ k;exact .mp g (k.num _ _ h)
 | nili=>intro _ _;exact .nili
 | ifc cs hr ih=>intro _ k;exact .ifc cs (ih k)
 | st parts hp hr ih=>intro _ k;exact .st parts hp fun j m p h1 h2=>ih j m p h1 h2 k
 | arr parts hl hp hes hr ih=>intro _ k;exact .arr parts hl hp hes fun j m p h1 h2=>ih j m p h1 h2 k.free
theorem aI.keep {v:Value} (h:aI w P adr m v) (k:bg w w' P P' adr adr'):aI w' P' adr' m v:=by
 cases h with
 | val cs h=>exact .val cs (h.keep k)
 | undef=>exact .undef
 | tup vs hl h=>exact .tup vs hl fun j m u h1 h2=>by obtain⟨cs,h3,h4⟩:=h j m u h1 h2;exact⟨cs,h3.keep k,h4⟩
theorem aM {es:Nat}: ∀{parts:List (List Value)},(∀p∈parts,p.length=es)→parts.flatten.length=parts.length * es
 | [],_=>by simp
 | p :: parts,h=>by
  rw [a₉,a₆,h p sm,aM fun q hq=>h q (by simp [hq]),g₈,f₂]
  omega
theorem yP: ∀{l:List MV} {parts:List (List Value)},parts.length=l.length→(∀(j:Nat) m p,l[j]? =some m→parts[j]? =some p→p.length=m.size)→parts.flatten.length=MV.sizes l
 | [],[],_,_=>rfl
 | m :: l,p :: parts,hl,h=>by
  rw [a₉,a₆,h 0 m p rfl rfl,yP (by simpa using hl) fun j m p h1 h2=>h (j + 1) m p h1 h2]
  rfl
 | [],_ :: _,h,_=>by simp at h
 | _ :: _,[],h,_=>by simp at h
theorem bF.size (h:bF w P adr m vs):vs.length=m.size:=by
 induction h with
 | st parts hp hr ih=>exact yP hp ih
 | arr parts hl hp hes hr ih=>rw [aM hes,hp];rfl
 | _=>rfl
theorem bF.scalar (h:bF w P adr m vs) (ha:m.isAgg=false): ∃v,vs= [v] :=by
 cases h <;> first | exact⟨_,rfl⟩ | cases ha
theorem kh (h:bF w P adr m vs):(valM m vs).cells.toList=vs:=by
 unfold valM;cases ha:m.isAgg with
 | true=>rfl
 | false=>
  cases h <;> first | rfl | cases ha
theorem gS: ∀{l:List MV},MV.idFrees l=true→∀(j:Nat) m,l[j]? =some m→m.idFree=true
 | [],_,j,m,h=>by simp at h
 | x :: l,h,j,m,hj=>by
  have h:(x.idFree && MV.idFrees l)=true:=h
  rw [a₁] at h
  cases j with
  | zero=>simp at hj;subst hj;exact h.1
  | succ j=>exact gS h.2 j m (by simpa using hj)
theorem bF.free (h:bF w P adr m vs):m.idFree=true→bF w P noAdr m vs:=by
 induction h with
 | int=>intro _;exact .int
 | bool=>intro _;exact .bool
 | str=>intro _;exact .str
 | nilp=>intro _;exact .nilp
 | ptr g h=>intro h;cases h
 | gp=>intro _;exact .gp
 | ep b o vs hc hr ih=>intro _;exact .ep b o vs hc hr
 | sl A cap es parts hl hp hes hnn hcap hc hr ih=>intro _;exact .sl A cap es parts hl hp hes hnn hcap hc hr
 | nils=>intro _;exact .nils
 | ms0=>intro h;cases h
 | ms=>intro h;cases h
 | fn parts hp hr ih=>intro hf;exact .fn parts hp fun j m p h1 h2=>ih j m p h1 h2 (gS hf j m h1)
 | nilf=>intro _;exact .nilf
 | mp g h=>intro h;cases h
 | nili=>intro _;exact .nili
 | ifc cs hr ih=>intro hf;exact .ifc cs (ih hf)
 | st parts hp hr ih=>intro hf;exact .st parts hp fun j m p h1 h2=>ih j m p h1 h2 (gS hf j m h1)
 | arr parts hl hp hes hr ih=>intro _;exact .arr parts hl hp hes hr
theorem bF.ofNone (h:bF w P noAdr m vs):bF w P adr m vs:=h.keep ⟨fun _ _ h=>h,fun _ _ _=>rfl,fun _ _ h=>(nomatch h),fun _ _ _ _ h=>nomatch h⟩
theorem bF.one (h:bF w P adr m vs): ∀v∈vs,v.oneCell'=true:=by
 induction h with
 | st parts hp hr ih=>
  intro v hv;obtain⟨p,hp1,hv⟩:=h₀.1 hv;obtain⟨j,hj,rfl⟩:=e₃.1 hp1;exact ih j _ _ (a₄ om) (a₄ hj) v hv
 | arr parts hl hp hes hr ih=>
  intro v hv;obtain⟨p,hp1,hv⟩:=h₀.1 hv;obtain⟨j,hj,rfl⟩:=e₃.1 hp1;exact ih j _ _ (a₄ om) (a₄ hj) v hv
 | _=>intro v hv;simp at hv;subst hv;rfl
end
end
section
def bH:List MV→Nat→Option MV
 | [],_=>none
 | x :: _,0=>some x
 | _ :: l,n + 1=>bH l n
theorem bD: ∀(l:List MV) (n:Nat),bH l n=l[n]?
 | [],_=>by simp [bH]
 | x :: l,0=>rfl
 | x :: l,n + 1=>by simp [bH,bD l n]
def ew:List MV→Nat→Nat
 | [],_=>0
 | _,0=>0
 | m :: l,n + 1=>m.size + ew l n
def fb:MV→List Nat→Nat→Option MV
 | m,[],fo=>bif a₀ fo 0 then some m else none
 | .st l,i :: p,fo=>match bH l i with
  | some m=>bif d₁ (ew l i) fo then fb m p (fo - ew l i) else none
  | none=>none
 | .arr _ es l,i :: p,fo=>match bH l i with
  | some m=>bif d₁ (i * es) fo then fb m p (fo - i * es) else none
  | none=>none
 | _,_ :: _,_=>none
def setL:List MV→Nat→MV→List MV
 | [],_,_=> []
 | _ :: l,0,v=>v :: l
 | x :: l,n + 1,v=>x :: setL l n v
theorem setL_eq: ∀(l:List MV) (n:Nat) (v:MV),setL l n v=l.set n v
 | [],_,_=>by simp [setL]
 | x :: l,0,v=>rfl
 | x :: l,n + 1,v=>by simp [setL,setL_eq l n v]
def fL:MV→List Nat→Nat→MV→Option MV
 | m,[],fo,v=>bif a₀ fo 0 && a₀ v.size m.size then(match v.isAgg,m.isAgg with | true,true | false,false=>some v | _,_=>none) else none
 | .st l,i :: p,fo,v=>match bH l i with
  | some m=>bif d₁ (ew l i) fo then(match fL m p (fo - ew l i) v with | some m'=>some (.st (setL l i m')) | none=>none) else none
  | none=>none
 | .arr n es l,i :: p,fo,v=>match bH l i with
  | some m=>bif d₁ (i * es) fo && v.idFree then(match fL m p (fo - i * es) v with | some m'=>some (.arr n es (setL l i m')) | none=>none) else none
  | none=>none
 | _,_ :: _,_,_=>none
section
variable {w w':World} {P P':bC} {adr adr':dV} {m r v:MV} {vs cs:List Value}
theorem bJ: ∀{parts:List (List Value)} {i:Nat} {p:List Value},parts[i]? =some p→parts.flatten=(parts.take i).flatten ++ p ++ (parts.drop (i + 1)).flatten
 | q :: parts,0,p,h=>by simp at h;subst h;simp
 | q :: parts,i + 1,p,h=>by
  have:=bJ (parts:=parts) (i:=i) (p:=p) (by simpa using h)
  simp only [a₉,d₃,g₁]
  rw [this];simp
 | [],i,p,h=>by simp at h
theorem jj: ∀{parts:List (List Value)} {i:Nat} {p q:List Value},parts[i]? =some p→(parts.set i q).flatten=(parts.take i).flatten ++ q ++ (parts.drop (i + 1)).flatten
 | x :: parts,0,p,q,h=>by simp
 | x :: parts,i + 1,p,q,h=>by
  have:=jj (parts:=parts) (i:=i) (p:=p) (q:=q) (by simpa using h)
  simp only [g₃,a₉,d₃,g₁]
  rw [this];simp
 | [],i,p,q,h=>by simp at h
theorem km: ∀{l:List MV} {parts:List (List Value)} {i:Nat},parts.length=l.length→(∀(j:Nat) m p,l[j]? =some m→parts[j]? =some p→p.length=m.size)→(parts.take i).flatten.length=ew l i
 | [],[],i,_,_=>by cases i <;> rfl
 | m :: l,p :: parts,0,_,_=>rfl
 | m :: l,p :: parts,i + 1,hl,h=>by
  rw [d₃,a₉,a₆,h 0 m p rfl rfl,km (by simpa using hl) fun j m p h1 h2=>h (j + 1) m p h1 h2]
  rfl
 | [],_ :: _,_,h,_=>by simp at h
 | _ :: _,[],_,h,_=>by simp at h
theorem bX {α β:Type} {l:List α} {parts:List β} (h:parts.length=l.length) {i:Nat} {m:α} (hm:l[i]? =some m): ∃p,parts[i]? =some p:=by
 have:=(a₃.1 hm).1;exact⟨parts[i]'om,a₄ om⟩
theorem mH: ∀{path:List Nat} {fo:Nat} {m:MV} {vs:List Value} {adr:dV},bF w P adr m vs→fb m path fo=some r→∃pre cs post,vs=pre ++ cs ++ post∧pre.length=fo∧bF w P adr r cs
 | [],fo,m,vs,adr,h,hg=>by
  have hg:(bif a₀ fo 0 then some m else none)=some r:=by cases m <;> exact hg
  cases hb:a₀ fo 0 with
  | false=>rw [hb] at hg;cases hg
  | true=>
   rw [hb] at hg
   have:=a₂ hb
   injection hg with hg
   subst hg;subst this
   exact⟨[],vs,[],sm,rfl,h⟩
 | i :: p,fo,m,vs,adr,h,hg=>by
  cases h with
  | st parts hp hr=>
   rename_i l
   simp only [fb] at hg
   split at hg
   ·rename_i m' hm
    rw [bD] at hm
    cases hb:d₁ (ew l i) fo with
    | false=>rw [hb] at hg;cases hg
    | true=>
     rw [hb] at hg
     have hle:=c₆ hb
     obtain⟨q,hq⟩:=bX hp hm
     obtain⟨pre,cs,post,h1,h2,h3⟩:=mH (hr i m' q hm hq) hg
     have hs:=km (i:=i) hp fun j m p h1 h2=>(hr j m p h1 h2).size
     refine⟨(parts.take i).flatten ++ pre,cs,post ++ (parts.drop (i + 1)).flatten,?_,?_,h3⟩
     ·rw [bJ hq,h1];simp
     ·rw [a₆,hs,h2];omega
   ·cases hg
  | arr parts hl hp hes hr=>
   rename_i n es l
   simp only [fb] at hg
   split at hg
   ·rename_i m' hm
    rw [bD] at hm
    cases hb:d₁ (i * es) fo with
    | false=>rw [hb] at hg;cases hg
    | true=>
     rw [hb] at hg
     have hle:=c₆ hb
     obtain⟨q,hq⟩:=bX (hp.trans hl.symm) hm
     obtain⟨pre,cs,post,h1,h2,h3⟩:=mH (hr i m' q hm hq) hg
     have hi:=(a₃.1 hq).1
     have hs:(parts.take i).flatten.length=i * es:=by
      rw [aM (es:=es) fun x hx=>hes x (b₄ hx),a₅,b₉ om]
     refine⟨(parts.take i).flatten ++ pre,cs,post ++ (parts.drop (i + 1)).flatten,?_,?_,h3.ofNone⟩
     ·rw [bJ hq,h1];simp
     ·rw [a₆,hs,h2];omega
   ·cases hg
  | _=>simp [fb] at hg
theorem bK {α:Type} {l:List α} {i j:Nat} {x y:α} (h:(l.set i x)[j]? =some y):(j=i∧y=x)∨(j≠i∧l[j]? =some y):=by
 rw [d₇] at h;split at h
 ·rename_i e;split at h
  ·injection h with h;exact .inl ⟨e.symm,h.symm⟩
  ·cases h
 ·rename_i e;exact .inr ⟨fun h=>e h.symm,h⟩
theorem pO: ∀{path:List Nat} {fo:Nat} {m m':MV} {vs:List Value} {adr:dV},bF w P adr m vs→fL m path fo v=some m'→bF w P adr v cs→
  ∃pre old post,vs=pre ++ old ++ post∧pre.length=fo∧old.length=cs.length∧bF w P adr m' (pre ++ cs ++ post)∧m'.isAgg=m.isAgg∧(m.idFree=true→v.idFree=true→m'.idFree=true)
 | [],fo,m,m',vs,adr,h,hs,hv=>by
  have hs2:(bif a₀ fo 0 && a₀ v.size m.size then(match v.isAgg,m.isAgg with | true,true | false,false=>some v | _,_=>none) else none)=some m':=by cases m <;> exact hs
  clear hs
  cases hb:(a₀ fo 0 && a₀ v.size m.size) with
  | false=>rw [hb] at hs2;cases hs2
  | true=>
   rw [hb] at hs2
   rw [a₁] at hb
   have h0:=a₂ hb.1
   have h1:=a₂ hb.2
   subst h0
   have hag:v=m'∧v.isAgg=m.isAgg:=by
    have hs:(match v.isAgg,m.isAgg with | true,true | false,false=>some v | _,_=>none)=some m':=hs2
    split at hs
    ·rename_i e1 e2;injection hs with hs;exact⟨hs,e1.trans e2.symm⟩
    ·rename_i e1 e2;injection hs with hs;exact⟨hs,e1.trans e2.symm⟩
    ·cases hs
   obtain⟨rfl,hag⟩:=hag
   exact⟨[],vs,[],sm,rfl,by rw [h.size,hv.size,h1],by simpa using hv,hag,fun _ h=>h⟩
 | i :: p,fo,m,m',vs,adr,h,hs,hv=>by
  cases h with
  | st parts hp hr=>
   rename_i l
   simp only [fL] at hs
   split at hs
   ·rename_i x hx
    rw [bD] at hx
    cases hb:d₁ (ew l i) fo with
    | false=>rw [hb] at hs;cases hs
    | true=>
     rw [hb] at hs
     have hle:=c₆ hb
     simp only [cond_true] at hs
     split at hs
     ·rename_i x' hx'
      injection hs with hs
      subst hs
      obtain⟨q,hq⟩:=bX hp hx
      obtain⟨pre,old,post,h1,h2,h3,h4,h5,h6⟩:=pO (hr i x q hx hq) hx' hv
      have hs:=km (i:=i) hp fun j m p h1 h2=>(hr j m p h1 h2).size
      refine⟨(parts.take i).flatten ++ pre,old,post ++ (parts.drop (i + 1)).flatten,?_,?_,h3,?_,rfl,?_⟩
      ·rw [bJ hq,h1];simp
      ·rw [a₆,hs,h2];omega
      ·have e:(parts.take i).flatten ++ pre ++ cs ++ (post ++ (parts.drop (i + 1)).flatten)=(parts.set i (pre ++ cs ++ post)).flatten:=by
        rw [jj hq];simp
       rw [e,setL_eq]
       refine .st _ (by simpa using hp) fun j y z hy hz=>?_
       rcases bK hy with ⟨rfl,rfl⟩ | ⟨hne,hy⟩
       ·rcases bK hz with ⟨_,rfl⟩ | ⟨hne,_⟩
        ·exact h4
        ·exact absurd rfl hne
       ·rcases bK hz with ⟨rfl,_⟩ | ⟨_,hz⟩
        ·exact absurd rfl hne
        ·exact hr j y z hy hz
      ·intro hf hvf
       have key: ∀{l:List MV} {i:Nat},MV.idFrees l=true→x'.idFree=true→MV.idFrees (setL l i x')=true:=by
        intro l
        induction l with
        | nil=>intro i _ _;rfl
        | cons a l ih=>
         intro i h1 h2
         have h1:(a.idFree && MV.idFrees l)=true:=h1
         rw [a₁] at h1
         cases i with
         | zero=>show (x'.idFree && MV.idFrees l)=true;rw [h2,h1.2];rfl
         | succ i=>show (a.idFree && MV.idFrees (setL l i x'))=true;rw [h1.1,ih h1.2 h2];rfl
       exact key hf (h6 (gS hf i x hx) hvf)
     ·cases hs
   ·cases hs
  | arr parts hl hp hes hr=>
   rename_i n es l
   simp only [fL] at hs
   split at hs
   ·rename_i x hx
    rw [bD] at hx
    cases hb:(d₁ (i * es) fo && v.idFree) with
    | false=>rw [hb] at hs;cases hs
    | true=>
     rw [hb] at hs
     rw [a₁] at hb
     have hle:=c₆ hb.1
     simp only [cond_true] at hs
     split at hs
     ·rename_i x' hx'
      injection hs with hs
      subst hs
      obtain⟨q,hq⟩:=bX (hp.trans hl.symm) hx
      obtain⟨pre,old,post,h1,h2,h3,h4,h5,h6⟩:=pO (hr i x q hx hq) hx' (hv.free hb.2)
      have hi:=(a₃.1 hq).1
      have hs:(parts.take i).flatten.length=i * es:=by
       rw [aM (es:=es) fun x hx=>hes x (b₄ hx),a₅,b₉ om]
      have hql:=hes q (a₈ hq)
      refine⟨(parts.take i).flatten ++ pre,old,post ++ (parts.drop (i + 1)).flatten,?_,?_,h3,?_,rfl,fun _ _=>rfl⟩
      ·rw [bJ hq,h1];simp
      ·rw [a₆,hs,h2];omega
      ·have e:(parts.take i).flatten ++ pre ++ cs ++ (post ++ (parts.drop (i + 1)).flatten)=(parts.set i (pre ++ cs ++ post)).flatten:=by
        rw [jj hq];simp
       rw [e,setL_eq]
       refine .arr _ (by simpa using hl) (by simpa using hp) (fun z hz=>?_) fun j y z hy hz=>?_
       ·rcases f₁ hz with hz | rfl
        ·exact hes z hz
        ·rw [h1] at hql
         simp only [a₆] at hql ⊢
         omega
       ·rcases bK hy with ⟨rfl,rfl⟩ | ⟨hne,hy⟩
        ·rcases bK hz with ⟨_,rfl⟩ | ⟨hne,_⟩
         ·exact h4
         ·exact absurd rfl hne
        ·rcases bK hz with ⟨rfl,_⟩ | ⟨_,hz⟩
         ·exact absurd rfl hne
         ·exact hr j y z hy hz
     ·cases hs
   ·cases hs
  | _=>simp [fL] at hs
end
end
section
structure MB where
 ty:TypeId
 es:Nat
 row:Bool
 pe:Nat
 l:List MV
abbrev FM:=Nat→Option MB
def aN {α:Type} (m:Nat→Option α) (c:Nat) (b:α):Nat→Option α:=fun x=>if x=c then some b else m x
def iF {α:Type} (m:Nat→Option α) (c:Nat):Nat→Option α:=fun x=>if x=c then none else m x
theorem aF {α:Type} (m:Nat→Option α) (c:Nat) (b:α):aN m c b c=some b:=by simp [aN]
theorem aK {α:Type} (m:Nat→Option α) {c x:Nat} (b:α) (h:x≠c):aN m c b x=m x:=by simp [aN,h]
theorem mI {α:Type} {m:Nat→Option α} {c x:Nat} {b:α} (h:iF m c x=some b):x≠c∧m x=some b:=by
 unfold iF at h;split at h
 ·cases h
 ·exact⟨by assumption,h⟩
def EG (w:World) (P:bC) (adr:dV) (b:MB) (g:Nat):Prop:= ∃(cur:Array Value) (parts:List (List Value)),w.heap[g]? =some (.cells cur b.ty (0,0))∧parts.length=b.l.length∧(∀p∈parts,p.length=b.es)∧
  (∀(j:Nat) x p,b.l[j]? =some x→parts[j]? =some p→bF w P (if b.row then noAdr else adr) x p)∧parts.flatten <+:cur.toList
def gT (w:World) (P:bC):List MV→List MV→List MapEntry→Prop
 | [],[],[] =>True
 | k :: ks,v :: vs,e :: es=>aI w P noAdr k e.key∧aI w P noAdr v e.val∧gT w P ks vs es
 | _,_,_=>False
def xe (w:World) (P:bC) (ks vs:List MV) (o:Obj):Prop:=(∃(clk:Nat) (es:Array MapEntry),o= .map es clk∧gT w P ks vs es.toList)∨∃(s:List UInt8) (pos:Nat),ks= [.str s] ∧vs= [.nilp, .int .i64 pos] ∧o= .stringIter ⟨s.toArray⟩ pos
def Mt (w:World) (P:bC) (b:MB) (g:Nat):Prop:=b.row=false∧b.es=0∧∃(ks vs:List MV) (o:Obj),b.l= [.mpv ks vs] ∧w.heap[g]? =some o∧xe w P ks vs o
theorem xe.cells {w:World} {P:bC} {ks vs:List MV} {cur:Array Value} {t:TypeId} {x:Nat×Nat} (h:xe w P ks vs (.cells cur t x)):False:=by
 rcases h with ⟨_,_,h,_⟩ | ⟨_,_,_,_,h⟩ <;> cases h
structure nd (w:World) (P:bC) (adr:dV) (b:MB) (g:Nat):Prop where
 has':EG w P adr b g∨Mt w P b g
 pe: ∀o,P g o→o < b.pe * b.es
 le:b.pe≤b.l.length
structure aQ (w:World) (P:bC) (adr:dV) (m:FM):Prop where
 blk: ∀c b,m c=some b→(b.row=true∧b.l= [] ∧adr c=none∧b.pe=0)∨∃g,adr c=some g∧nd w P adr b g
 inj: ∀c c' b b' g,m c=some b→m c'=some b'→adr c=some g→adr c'=some g→c=c'
 prot: ∀b o,P b o→b < w.heap.size
section
variable {w w':World} {P P':bC} {adr adr':dV} {m m':FM} {b:MB} {g c:Nat}
theorem bg.sub (k:bg w w' P P' adr adr') (r:Bool):bg w w' P P' (if r then noAdr else adr) (if r then noAdr else adr'):=by
 cases r
 ·exact k
 ·exact k.free
theorem nd.lt (h:nd w P adr b g):g < w.heap.size:=by
 rcases h.has' with ⟨cur,parts,h1,_⟩ | ⟨_,_,_,_,_,_,h1,_⟩
 ·exact(Array.getElem?_eq_some_iff.1 h1).1
 ·exact(Array.getElem?_eq_some_iff.1 h1).1
theorem gT.keep (k:bg w w' P P' adr adr'): ∀{ks vs:List MV} {es:List MapEntry},gT w P ks vs es→gT w' P' ks vs es
 | [],[],[],_=>trivial
 | _ :: _,_ :: _,_ :: _,h=>⟨h.1.keep k.free,h.2.1.keep k.free,gT.keep k h.2.2⟩
 | [],[],_ :: _,h=>h.elim
 | [],_ :: _,_,h=>h.elim
 | _ :: _,[],_,h=>h.elim
 | _ :: _,_ :: _,[],h=>h.elim
theorem xe.keep (k:bg w w' P P' adr adr') {ks vs:List MV} {o:Obj} (h:xe w P ks vs o):xe w' P' ks vs o:=by
 rcases h with ⟨clk,es,h1,h2⟩ | h
 ·exact .inl ⟨clk,es,h1,h2.keep k⟩
 ·exact .inr h
theorem nd.ofE (h:nd w P adr b g) (he:b.es≠0):EG w P adr b g:=h.has'.elim id fun h=>absurd h.2.1 he
theorem nd.ofR (h:nd w P adr b g) (hr:b.row=true):EG w P adr b g:=h.has'.elim id fun h=>by rw [h.1] at hr;cases hr
theorem nd.ofL (h:nd w P adr b g) (hl: ∀ks vs,b.l≠ [.mpv ks vs]):EG w P adr b g:=h.has'.elim id fun h=>by
 obtain⟨_,_,ks,vs,_,e,_⟩:=h;exact absurd e (hl ks vs)
theorem nd.ofX (h:nd w P adr b g) {k:Nat} {x:MV} (hx:b.l[k]? =some x) (hn: ∀ks vs,x≠ .mpv ks vs):EG w P adr b g:=h.ofL fun ks vs e=>by
 rw [e] at hx;cases k with
 | zero=>injection hx with hx;exact hn ks vs hx.symm
 | succ k=>simp at hx
theorem nd.keep (h:nd w P adr b g) (k:bg w w' P P' adr adr') (hg:w'.heap[g]? =w.heap[g]?) (hp: ∀o,P' g o→P g o):nd w' P' adr' b g:=by
 refine⟨?_,fun o ho=>h.pe o (hp o ho),h.le⟩;rcases h.has' with ⟨cur,parts,h1,h2,h3,h4,h5⟩ | ⟨h1,h2,ks,vs,o,h3,h4,h5⟩
 ·exact .inl ⟨cur,parts,hg.trans h1,h2,h3,fun j x p hx hq=>(h4 j x p hx hq).keep (k.sub b.row),h5⟩
 ·exact .inr ⟨h1,h2,ks,vs,o,h3,hg.trans h4,h5.keep k⟩
def gM (w w':World) (P:bC):bC:=fun b o=>P b o∨(w.heap.size≤b∧b < w'.heap.size)
theorem gw {b o:Nat} (h:w'.heap[b]? =w.heap[b]?):w'.cell? ⟨b,o,none⟩=w.cell? ⟨b,o,none⟩:=World.cell?_of_block (a:=⟨b,o,none⟩) h
theorem bg.below (hI: ∀b o,P b o→b < w.heap.size) (hb:Below w.heap.size w w'):bg w w' P (gM w w' P) adr adr:=
 ⟨fun _ _ h=> .inl h,fun b o h=>gw (hb.block b (hI b o h)),fun _ _ h=>h,fun _c g cur _ty _ hw=>⟨cur,(hb.block g (Array.getElem?_eq_some_iff.1 hw).1).trans hw,rfl⟩⟩
theorem aQ.below (h:aQ w P adr m) (hb:Below w.heap.size w w'):aQ w' (gM w w' P) adr m:=by
 refine⟨fun c b hc=>?_,h.inj,fun b o hp=>?_⟩
 ·rcases h.blk c b hc with h1 | ⟨g,h1,h2⟩
  ·exact .inl h1
  ·refine .inr ⟨g,h1,h2.keep (bg.below h.prot hb) (hb.block g h2.lt) fun o ho=>?_⟩;rcases ho with ho | ho
   ·exact ho
   ·exact absurd h2.lt om
 ·rcases hp with hp | hp
  ·exact e₈ (h.prot b o hp) hb.size
  ·exact hp.2
theorem Below.alloc1 (w:World) (o:Obj):Below w.heap.size w (w.alloc o):=(Below.refl _ _).alloc (f₆ _) _
theorem bg.below' (hI: ∀b o,P b o→b < w.heap.size) (hb:Below w.heap.size w w'):bg w w' P P adr adr:=
 ⟨fun _ _ h=>h,fun b o h=>gw (hb.block b (hI b o h)),fun _ _ h=>h,fun _c g cur _ty _ hw=>⟨cur,(hb.block g (Array.getElem?_eq_some_iff.1 hw).1).trans hw,rfl⟩⟩
theorem bg.adr1 (hc:adr c=none) (g:Nat):bg w w P P adr (aN adr c g):=
 ⟨fun _ _ h=>h,fun _ _ _=>rfl,fun x y h=>by
  by_cases e:x=c
  ·subst e;rw [hc] at h;cases h
  ·rw [aK _ _ e];exact h,fun _ _ cur _ _ h=>⟨cur,h,rfl⟩⟩
theorem aQ.newG (h:aQ w P adr m) (hc:adr c=none) (hm:m c=none) (hb:Below w.heap.size w w') (hB:bg w w' P P adr (aN adr c w.heap.size)→EG w' P (aN adr c w.heap.size) b w.heap.size∨Mt w' P b w.heap.size) (hle:b.pe≤b.l.length) :
  aQ w' P (aN adr c w.heap.size) (aN m c b)∧bg w w' P P adr (aN adr c w.heap.size):=by
 have k:bg w w' P P adr (aN adr c w.heap.size):=(bg.below' h.prot hb).trans (bg.adr1 hc _)
 have hnew: ∀o,¬ P w.heap.size o:=fun o ho=>absurd (h.prot _ _ ho) (Nat.lt_irrefl _)
 refine⟨⟨fun x y hx=>?_,fun x y bx bY g hx hy hgx hgy=>?_,fun b o hp=>e₈ (h.prot b o hp) hb.size⟩,k⟩
 ·by_cases e:x=c
  ·subst e
   rw [aF] at hx
   injection hx with hx
   subst hx
   exact .inr ⟨_,aF _ _ _,hB k,fun o ho=>absurd ho (hnew o),hle⟩
  ·rw [aK _ _ e] at hx
   rcases h.blk x y hx with h1 | ⟨g,h1,h2⟩
   ·exact .inl ⟨h1.1,h1.2.1,by rw [aK _ _ e];exact h1.2.2.1,h1.2.2.2⟩
   ·exact .inr ⟨g,by rw [aK _ _ e];exact h1,h2.keep k (hb.block g h2.lt) fun o ho=>ho⟩
 ·have old: ∀{x:Nat} {bx:MB} {g:Nat},x≠c→aN m c b x=some bx→aN adr c w.heap.size x=some g→m x=some bx∧adr x=some g∧g < w.heap.size:=by
   intro x bx g e hx hg
   rw [aK _ _ e] at hx hg
   rcases h.blk x bx hx with h1 | ⟨g',h1,h2⟩
   ·rw [h1.2.2.1] at hg;cases hg
   ·rw [h1] at hg;injection hg with hg;subst hg;exact⟨hx,h1,h2.lt⟩
  by_cases ex:x=c
  ·by_cases ey:y=c
   ·exact ex.trans ey.symm
   ·subst ex
    rw [aF] at hgx
    injection hgx with hgx
    obtain⟨_,_,h3⟩:=old ey hy hgy
    omega
  ·by_cases ey:y=c
   ·subst ey
    rw [aF] at hgy
    injection hgy with hgy
    obtain⟨_,_,h3⟩:=old ex hx hgx
    omega
   ·obtain⟨a1,a2,_⟩:=old ex hx hgx
    obtain⟨b1,b2,_⟩:=old ey hy hgy
    exact h.inj x y bx bY g a1 b1 a2 b2
theorem aQ.new (h:aQ w P adr m) (hc:adr c=none) (hm:m c=none) (hb:Below w.heap.size w w') {cur:Array Value} {parts:List (List Value)} (hg:w'.heap[w.heap.size]? =some (.cells cur b.ty (0,0))) (hpl:parts.length=b.l.length) (hpe: ∀p∈parts,p.length=b.es)
  (hr: ∀(j:Nat) x p,b.l[j]? =some x→parts[j]? =some p→bF w P (if b.row then noAdr else adr) x p) (hcur:parts.flatten <+:cur.toList) (hle:b.pe≤b.l.length) :
  aQ w' P (aN adr c w.heap.size) (aN m c b)∧bg w w' P P adr (aN adr c w.heap.size):=
 h.newG hc hm hb (fun k=> .inl ⟨cur,parts,hg,hpl,hpe,fun j x p h1 h2=>(hr j x p h1 h2).keep (k.sub b.row),hcur⟩) hle
theorem aQ.sub (h:aQ w P adr m) (hs: ∀c b,m' c=some b→m c=some b):aQ w P adr m':=⟨fun c b hc=>h.blk c b (hs c b hc),fun c c' b b' g h1 h2=>h.inj c c' b b' g (hs _ _ h1) (hs _ _ h2),h.prot⟩
theorem cI {α:Type} {l r:List α} (h:l <+:r) {j:Nat} {x:α} (hx:l[j]? =some x):r[j]? =some x:=by
 obtain⟨t,rfl⟩:=h;rw [b₃ (a₃.1 hx).1];exact hx
theorem aQ.write (h:aQ w P adr m) {b':MB} (hlen:b.l.length≤b'.l.length) (hm:m c=some b) (ha:adr c=some g) (hty:b'.ty=b.ty) (hes:b'.es=b.es) (hpe:b'.pe=b.pe) {cur cur':Array Value} (hg:w.heap[g]? =some (.cells cur b.ty (0,0))) (hsz:cur'.size=cur.size)
  (hsame: ∀o,P g o→cur'[o]? =cur[o]?) {parts:List (List Value)} (hpl:parts.length=b'.l.length) (hpes: ∀p∈parts,p.length=b'.es)
  (hr: ∀(j:Nat) x p,b'.l[j]? =some x→parts[j]? =some p→bF w P (if b'.row then noAdr else adr) x p) (hcur:parts.flatten <+:cur'.toList) :
  aQ (w.setRow g cur') P adr (aN m c b')∧bg w (w.setRow g cur') P P adr adr:=by
 have hgw:=setRow_heap w g cur cur' b.ty (0,0) hg
 have k:bg w (w.setRow g cur') P P adr adr:=by
  refine⟨fun _ _ h=>h,fun x o hp=>?_,fun _ _ h=>h,fun c' g' cu ty hc hw=>?_⟩
  ·by_cases e:x=g
   ·subst e
    rw [cell_of_row _ x o cur' b.ty (0,0) hgw,cell_of_row _ x o cur b.ty (0,0) hg]
    exact hsame o hp
   ·exact gw (setRow_other _ _ _ _ e)
  ·by_cases e:g'=g
   ·subst e
    rw [hg] at hw
    injection hw with hw
    injection hw with h1 h2
    subst h1;subst h2
    exact⟨cur',hgw,hsz⟩
   ·exact⟨cu,(setRow_other _ _ _ _ e).trans hw,rfl⟩
 refine⟨⟨fun x y hx=>?_,fun x y bx bY g' hx hy hgx hgy=>?_,fun b o hp=>by simpa using h.prot b o hp⟩,k⟩
 ·by_cases e:x=c
  ·subst e
   rw [aF] at hx
   injection hx with hx
   subst hx
   refine .inr ⟨g,ha, .inl ⟨cur',parts,by rw [hty];exact hgw,hpl,hpes,fun j x p h1 h2=>(hr j x p h1 h2).keep (k.sub b'.row),hcur⟩,fun o ho=>?_,?_⟩
   rw [hpe,hes]
   rcases h.blk x b hm with h1 | ⟨g',h1,h2⟩
   ·rw [ha] at h1;cases h1.2.2.1
   ·rw [ha] at h1;injection h1 with h1;subst h1;exact h2.pe o ho
   rw [hpe]
   rcases h.blk x b hm with h1 | ⟨g',h1,h2⟩
   ·rw [ha] at h1;cases h1.2.2.1
   ·exact Nat.le_trans h2.le hlen
  ·rw [aK _ _ e] at hx
   rcases h.blk x y hx with h1 | ⟨g',h1,h2⟩
   ·exact .inl h1
   ·refine .inr ⟨g',h1,h2.keep k (setRow_other _ _ _ _ fun eg=>e ?_) fun o ho=>ho⟩
    subst eg
    exact h.inj x c y b g' hx hm h1 ha
 ·have old: ∀{x:Nat} {bx:MB},aN m c b' x=some bx→∃by_,m x=some by_:=by
   intro x bx hx
   by_cases e:x=c
   ·subst e;exact⟨b,hm⟩
   ·rw [aK _ _ e] at hx;exact⟨bx,hx⟩
  obtain⟨_,h1⟩:=old hx
  obtain⟨_,h2⟩:=old hy
  exact h.inj x y _ _ g' h1 h2 hgx hgy
theorem aQ.writeM (h:aQ w P adr m) {ks vs ks' vs':List MV} (hm:m c=some b) (hl:b.l= [.mpv ks vs]) (ha:adr c=some g) {o o':Obj} (hg:w.heap[g]? =some o) (hgo:xe w P ks vs o) (hgw:w'.heap[g]? =some o') (hso: ∀x,x≠g→w'.heap[x]? =w.heap[x]?) (hsz:w'.heap.size=w.heap.size) (hE:xe w P ks' vs' o') :
  aQ w' P adr (aN m c { b with l:= [.mpv ks' vs'] })∧bg w w' P P adr adr:=by
 have hB:Mt w P b g∧b.pe≤b.l.length∧∀o,P g o→o < b.pe * b.es:=by
  rcases h.blk c b hm with h1 | ⟨g',h1,h2⟩
  ·rw [ha] at h1;cases h1.2.2.1
  ·rw [ha] at h1;injection h1 with h1;subst h1
   rcases h2.has' with ⟨cur,_,h3,_⟩ | h3
   ·rw [hg] at h3;injection h3 with h3;subst h3;exact hgo.cells.elim
   ·exact⟨h3,h2.le,h2.pe⟩
 obtain⟨hB,hle,hpe⟩:=hB
 have hno: ∀o,¬ P g o:=fun o ho=>by have:=hpe o ho;rw [hB.2.1,Nat.mul_zero] at this;omega
 have k:bg w w' P P adr adr:=by
  refine⟨fun _ _ h=>h,fun x o hp=>?_,fun _ _ h=>h,fun c' g' cu ty hc hw=>?_⟩
  ·by_cases e:x=g
   ·subst e;exact absurd hp (hno o)
   ·exact gw (hso _ e)
  ·by_cases e:g'=g
   ·subst e;rw [hg] at hw;injection hw with hw;subst hw;exact hgo.cells.elim
   ·exact⟨cu,(hso _ e).trans hw,rfl⟩
 refine⟨⟨fun x y hx=>?_,fun x y bx bY g' hx hy hgx hgy=>?_,fun b o hp=>by rw [hsz];exact h.prot b o hp⟩,k⟩
 ·by_cases e:x=c
  ·subst e
   rw [aF] at hx
   injection hx with hx
   subst hx
   refine .inr ⟨g,ha, .inr ⟨hB.1,hB.2.1,ks',vs',o',rfl,hgw,hE.keep k⟩,fun o ho=>absurd ho (hno o),?_⟩
   rw [hl] at hle
   exact hle
  ·rw [aK _ _ e] at hx
   rcases h.blk x y hx with h1 | ⟨g',h1,h2⟩
   ·exact .inl h1
   ·refine .inr ⟨g',h1,h2.keep k (hso _ fun eg=>e ?_) fun o ho=>ho⟩
    subst eg
    exact h.inj x c y b g' hx hm h1 ha
 ·have old: ∀{x:Nat} {bx:MB},aN m c { b with l:= [.mpv ks' vs'] } x=some bx→∃by_,m x=some by_:=by
   intro x bx hx
   by_cases e:x=c
   ·subst e;exact⟨b,hm⟩
   ·rw [aK _ _ e] at hx;exact⟨bx,hx⟩
  obtain⟨_,h1⟩:=old hx
  obtain⟨_,h2⟩:=old hy
  exact h.inj x y _ _ g' h1 h2 hgx hgy
theorem aQ.rename {d:Nat} (h:aQ w P adr (aN m c b)) (ha:adr c=some g) (hd:adr d=none) (hm:m d=none):aQ w P (aN adr d g) (aN (iF m c) d b)∧bg w w P P adr (aN adr d g):=by
 have k:bg w w P P adr (aN adr d g):=bg.adr1 hd g;have hcd:c≠d:=by rintro rfl;rw [ha] at hd;cases hd
 have old: ∀{x:Nat} {y:MB},x≠d→aN (iF m c) d b x=some y→x≠c∧aN m c b x=some y:=by
  intro x y e hx;rw [aK _ _ e] at hx;obtain⟨h1,h2⟩:=mI hx;exact⟨h1,by rw [aK _ _ h1];exact h2⟩
 refine⟨⟨fun x y hx=>?_,fun x y bx bY g' hx hy hgx hgy=>?_,h.prot⟩,k⟩
 ·by_cases e:x=d
  ·subst e;rw [aF] at hx;injection hx with hx
   subst hx;rcases h.blk c b (aF _ _ _) with h1 | ⟨g',h1,h2⟩
   ·rw [ha] at h1;cases h1.2.2.1
   ·rw [ha] at h1;injection h1 with h1;subst h1
    exact .inr ⟨g,aF _ _ _,h2.keep k rfl fun _ h=>h⟩
  ·obtain⟨h1,h2⟩:=old e hx;rcases h.blk x y h2 with h3 | ⟨g',h3,h4⟩
   ·exact .inl ⟨h3.1,h3.2.1,by rw [aK _ _ e];exact h3.2.2.1,h3.2.2.2⟩
   ·exact .inr ⟨g',by rw [aK _ _ e];exact h3,h4.keep k rfl fun _ h=>h⟩
 ·by_cases ex:x=d
  ·by_cases ey:y=d
   ·exact ex.trans ey.symm
   ·subst ex;rw [aF] at hgx;injection hgx with hgx
    obtain⟨h1,h2⟩:=old ey hy;rw [aK _ _ ey,← hgx] at hgy;exact absurd (h.inj y c _ _ g h2 (aF _ _ _) hgy ha) h1
  ·by_cases ey:y=d
   ·subst ey;rw [aF] at hgy;injection hgy with hgy
    obtain⟨h1,h2⟩:=old ex hx;rw [aK _ _ ex,← hgy] at hgx;exact absurd (h.inj x c _ _ g h2 (aF _ _ _) hgx ha) h1
   ·obtain⟨_,h2⟩:=old ex hx;obtain⟨_,h4⟩:=old ey hy;rw [aK _ _ ex] at hgx;rw [aK _ _ ey] at hgy;exact h.inj x y _ _ g' h2 h4 hgx hgy
theorem aQ.unborn (h:aQ w P adr m) (hc:adr c=none) (hr:b.row=true) (hl:b.l= []) (hpe:b.pe=0):aQ w P adr (aN m c b):=by
 refine⟨fun x y hx=>?_,fun x y bx bY g hx hy hgx hgy=>?_,h.prot⟩
 ·by_cases e:x=c
  ·subst e;rw [aF] at hx;injection hx with hx
   subst hx;exact .inl ⟨hr,hl,hc,hpe⟩
  ·rw [aK _ _ e] at hx;exact h.blk x y hx
 ·have old: ∀{x:Nat} {y:MB},adr x=some g→aN m c b x=some y→m x=some y:=by
   intro x y hg hx;by_cases e:x=c
   ·subst e;rw [hc] at hg;cases hg
   ·rw [aK _ _ e] at hx;exact hx
  exact h.inj x y _ _ g (old hgx hx) (old hgy hy) hgx hgy
end
end
section
def tup:List Value→Value
 | [v] =>v
 | vs=> .tuple vs.toArray
section
variable {P:Program} {T:bf} {N:Nat} {ents:List FuncId}
def sk (tmps:Array Value):ResultVar→Sem Value
 | .tmp t=>pure (tmps.getD t undef)
 | .cell p t=>do loadVar t (← asAddr (tmps.getD p undef))
theorem vp {ty:TypeId} {v u:Value} {w:World} (h:(Instr.loadAt ty v).run P w= .ok u w):(do loadVar ty (← asAddr v):Sem Value).run P w= .ok u w:=by
 cases v with
 | pointer ao=>
  cases ao with
  | none=>simp [Instr.loadAt,Instr.sureAddr,stuck] at h
  | some a=>simpa [Instr.loadAt,Instr.sureAddr,asAddr] using h
 | _=>simp [Instr.loadAt,Instr.sureAddr,stuck] at h
theorem lr {fn:Func} {rs:List ResultVar} (hrs:fn.results=rs.toArray) (h5:rs.length≤6) {tmps:Array Value} {w:World} {vs:List Value} (hl:vs.length=rs.length)
  (hi: ∀(i:Nat) (r:ResultVar),rs[i]? =some r→∃v,vs[i]? =some v∧(sk tmps r).run P w= .ok v w) :
  (results fn tmps).run P w= .ok (tup vs) w:=by
 have hres:results fn tmps=(do
   let vs ← fn.results.mapM (sk tmps)
   pure (if h:vs.size=1 then vs[0] else .tuple vs)):=by
  unfold results
  congr 1
 rw [hres,hrs]
 match rs,vs,h5,hl,hi with
 | [],[],_,_,_=>simp [tup]
 | [r1],[v1],_,_,hi=>
  obtain⟨u1,e1,r1⟩:=hi 0 _ rfl
  simp at e1;subst e1
  simp [r1,tup]
 | [r1,r2],[v1,v2],_,_,hi=>
  obtain⟨u1,e1,q1⟩:=hi 0 _ rfl
  obtain⟨u2,e2,q2⟩:=hi 1 _ rfl
  simp at e1 e2;subst e1;subst e2
  simp [q1,q2,tup]
 | [r1,r2,r3],[v1,v2,v3],_,_,hi=>
  obtain⟨u1,e1,q1⟩:=hi 0 _ rfl
  obtain⟨u2,e2,q2⟩:=hi 1 _ rfl
  obtain⟨u3,e3,q3⟩:=hi 2 _ rfl
  simp at e1 e2 e3;subst e1;subst e2;subst e3
  simp [q1,q2,q3,tup]
 | [r1,r2,r3,r4],[v1,v2,v3,v4],_,_,hi=>
  obtain⟨u1,e1,q1⟩:=hi 0 _ rfl
  obtain⟨u2,e2,q2⟩:=hi 1 _ rfl
  obtain⟨u3,e3,q3⟩:=hi 2 _ rfl
  obtain⟨u4,e4,q4⟩:=hi 3 _ rfl
  simp at e1 e2 e3 e4;subst e1;subst e2;subst e3;subst e4
  simp [q1,q2,q3,q4,tup]
 | [r1,r2,r3,r4,r5],[v1,v2,v3,v4,v5],_,_,hi=>
  obtain⟨u1,e1,q1⟩:=hi 0 _ rfl
  obtain⟨u2,e2,q2⟩:=hi 1 _ rfl
  obtain⟨u3,e3,q3⟩:=hi 2 _ rfl
  obtain⟨u4,e4,q4⟩:=hi 3 _ rfl
  obtain⟨u5,e5,q5⟩:=hi 4 _ rfl
  simp at e1 e2 e3 e4 e5;subst e1;subst e2;subst e3;subst e4;subst e5
  simp [q1,q2,q3,q4,q5,tup]
 | [r1,r2,r3,r4,r5,r6],[v1,v2,v3,v4,v5,v6],_,_,hi=>
  obtain⟨u1,e1,q1⟩:=hi 0 _ rfl
  obtain⟨u2,e2,q2⟩:=hi 1 _ rfl
  obtain⟨u3,e3,q3⟩:=hi 2 _ rfl
  obtain⟨u4,e4,q4⟩:=hi 3 _ rfl
  obtain⟨u5,e5,q5⟩:=hi 4 _ rfl
  obtain⟨u6,e6,q6⟩:=hi 5 _ rfl
  simp at e1 e2 e3 e4 e5 e6;subst e1;subst e2;subst e3;subst e4;subst e5;subst e6
  simp [q1,q2,q3,q4,q5,q6,tup]
end
end
section
theorem dW (n:Int) (h1: -9223372036854775808≤n) (h2:n < 9223372036854775808):IntKind.i64.wrap n=n:=by
 rw [IntKind.wrap_i64];omega
theorem bt (n:Int) (h1:0≤n) (h2:n < 18446744073709551616):IntKind.u64.wrap n=n:=by
 simp only [IntKind.wrap,IntKind.bits,IntKind.signed];simp;omega
theorem fR (n:Int) (h1:0≤n) (h2:n < 256):IntKind.u8.wrap n=n:=by
 simp only [IntKind.wrap,IntKind.bits,IntKind.signed];simp;omega
end
section
def xf (T:bf):List (Nat×TypeId)→Nat→Nat→Bool
 | [],b,sz=>a₀ b sz
 | (o,t) :: fs,b,sz=>a₀ o b && match bf.find T t with | some d=>xf T fs (b + d.size) sz | none=>false
def sn (P:Program) (T:bf):Nat→TypeId→Bool
 | 0,_=>false
 | f + 1,t=>match bf.find T t with
  | some (.int _)=>true
  | some .bool=>true
  | some .str=>true
  | some (.arr _ e es)=>e₁ 0 es && sn P T f e
  | some (.struct fs sz)=> !P.stoodInHeld t && (P.fieldsOf t).toList.all (fun x=> !(x.name == "_")) && xf T fs 0 sz && fs.all (fun x=>sn P T f x.2)
  | _=>false
def jk (T:bf):Nat→TypeId→List Value→Prop
 | 0,_,_=>False
 | f + 1,t,cs=>match bf.find T t with
  | some (.int k)=> ∃n,cs= [.int k n]
  | some .bool=> ∃b,cs= [.bool b]
  | some .str=> ∃s,cs= [.string s]
  | some (.arr n e es)=>cs.length=n * es∧∀i,i < n→jk T f e ((cs.drop (i * es)).take es)
  | some (.struct fs sz)=>cs.length=sz∧fs.foldr (fun x K=>(match bf.find T x.2 with | some d=>jk T f x.2 ((cs.drop x.1).take d.size) | none=>False)∧K) True
  | _=>False
def vP (T:bf) (t:TypeId) (cs:List Value):Value:=match bf.find T t with
 | some d=>match d.agg with | true=> .agg ⟨cs⟩ | false=>cs.headD undef
 | none=>undef
section
variable {P:Program} {T:bf}
theorem gU (hT:bL P T) {t:TypeId} {d:TD} (hd:bf.find T t=some d) {xs:List Value} {off:Nat} (hl:((xs.drop off).take d.size).length=d.size) (hpos:d.agg=false→d.size=1) (w:World) :
  (part t ⟨xs⟩ off).run P w= .ok (vP T t ((xs.drop off).take d.size)) w:=by
 have hsd:=TD.fits_size (hT.fits hd)
 unfold vP
 rw [hd]
 cases ha:d.agg with
 | true=>
  simp only [part,Sem.run_bind,TD.fits_agg (hT.fits hd),ha,Result.andThen_ok,if_true,bj hsd,Sem.run_pure]
  simp [g₄]
 | false=>
  rw [hpos ha] at hl ⊢
  simp only [part,Sem.run_bind,TD.fits_agg (hT.fits hd),ha,Result.andThen_ok,c₂,if_false]
  have h1:off < xs.length:=by
   rw [a₅,c₁] at hl
   omega
  have e:(List.take 1 (List.drop off xs))= [xs[off]] :=by rw [f₀ h1];rfl
  rw [e]
  simp [h1]
theorem TD.size_one {d:TD} (h:d.agg=false):d.size=1:=by cases d <;> first | rfl | (simp [TD.agg] at h)
theorem yQ {f:Nat} {t:TypeId} {d:TD} {cs:List Value} (hd:bf.find T t=some d) (h:jk T f t cs):cs.length=d.size:=by
 cases f with
 | zero=>exact h.elim
 | succ f=>
  unfold jk at h;rw [hd] at h;cases d with
  | int k=>obtain ⟨n,rfl⟩:=h;rfl
  | bool=>obtain ⟨n,rfl⟩:=h;rfl
  | str=>obtain ⟨n,rfl⟩:=h;rfl
  | arr n e es=>exact h.1
  | struct fs sz=>exact h.1
  | ptr=>exact h.elim
  | slice=>exact h.elim
  | fn=>exact h.elim
  | other=>exact h.elim
  | iface=>exact h.elim
theorem De {xs ys:List Value} {sz:Nat} (hx:xs.length=sz) (hy:ys.length=sz): ∀{fs:List (Nat×TypeId)} {b:Nat},xf T fs b sz=true→xs.take b=ys.take b→
  (∀x∈fs,∀d,bf.find T x.2=some d→(xs.drop x.1).take d.size=(ys.drop x.1).take d.size)→xs=ys
 | [],b,h,h1,_=>by
  have:=a₂ h
  subst this
  rw [d₈ om,d₈ om] at h1
  exact h1
 | (o,t) :: fs,b,h,h1,h2=>by
  simp only [xf,a₁] at h
  obtain⟨ho,h⟩:=h
  have:=a₂ ho
  subst this
  split at h
  ·rename_i d hd
   refine De hx hy h ?_ (fun x hx=>h2 x (d₂ _ hx))
   rw [List.take_add,List.take_add,h1,h2 _ d₆ d hd]
  ·cases h
theorem Kf {xs ys:List Value} {n es:Nat} (hes:0 < es) (hx:xs.length=n * es) (hy:ys.length=n * es) (h: ∀i,i < n→(xs.drop (i * es)).take es=(ys.drop (i * es)).take es):xs=ys:=by
 refine c₉ fun j=>?_
 by_cases hj:j < n * es
 ·have hi:j / es < n:=(Nat.div_lt_iff_lt_mul hes).2 hj;have h1:=congrArg (fun l=>l[j % es]?) (h _ hi);simp only [c₃,c₄,if_pos (Nat.mod_lt j hes)] at h1;have e:j / es * es + j % es=j:=by rw [Nat.mul_comm];exact Nat.div_add_mod j es
  rw [e] at h1;exact h1
 ·rw [e₂ om,e₂ om]
def Df (P:Program) (T:bf) (D:Nat) (t:TypeId) (xs ys:List Value):Prop:= ∃b:Bool,(∀w,(Op.equalIn D t (vP T t xs) (vP T t ys)).run P w= .ok b w)∧(b=true↔xs=ys)
theorem yR (hT:bL P T) {D:Nat} {e:TypeId} {d:TD} (hd:bf.find T e=some d) {xs ys:List Value} :
  ∀{is:List Nat},(∀i∈is,((xs.drop (i * d.size)).take d.size).length=d.size∧((ys.drop (i * d.size)).take d.size).length=d.size∧Df P T D e ((xs.drop (i * d.size)).take d.size) ((ys.drop (i * d.size)).take d.size))→
   ∃b:Bool,(∀w,(Op.eqItems D e d.size ⟨xs⟩ ⟨ys⟩ is).run P w= .ok b w)∧(b=true↔ ∀i∈is,(xs.drop (i * d.size)).take d.size=(ys.drop (i * d.size)).take d.size)
 | [],_=>⟨true,fun w=>by simp [Op.eqItems],sm⟩
 | i :: is,h=>by
  obtain⟨hx,hy,b,hr,hb⟩:=h i d₆
  obtain⟨b',hr',hb'⟩:=yR hT hd (is:=is) (fun j hj=>h j (d₂ _ hj))
  cases b with
  | false=>
   refine⟨false,fun w=>?_,?_⟩
   ·simp only [Op.eqItems,Sem.run_bind,gU hT hd hx TD.size_one,gU hT hd hy TD.size_one,hr,Result.andThen_ok]
    simp
   ·simp only [e₀,forall_eq_or_imp,c₂,false_iff,not_and]
    intro e
    exact absurd (hb.2 e) sm
  | true=>
   refine⟨b',fun w=>?_,?_⟩
   ·simp only [Op.eqItems,Sem.run_bind,gU hT hd hx TD.size_one,gU hT hd hy TD.size_one,hr,Result.andThen_ok]
    simpa using hr' w
   ·simp only [e₀,forall_eq_or_imp]
    rw [hb']
    exact⟨fun h=>⟨hb.1 rfl,h⟩,fun h=>h.2⟩
theorem vQ (hT:bL P T) {D:Nat} {xs ys:List Value} :
  ∀{fs:List Field},(∀f∈fs,(f.name == "_")=false∧∃d,bf.find T f.type=some d∧((xs.drop f.offset).take d.size).length=d.size∧((ys.drop f.offset).take d.size).length=d.size∧Df P T D f.type ((xs.drop f.offset).take d.size) ((ys.drop f.offset).take d.size))→
   ∃b:Bool,(∀w,(Op.eqFields D ⟨xs⟩ ⟨ys⟩ fs).run P w= .ok b w)∧(b=true↔ ∀f∈fs,∀d,bf.find T f.type=some d→(xs.drop f.offset).take d.size=(ys.drop f.offset).take d.size)
 | [],_=>⟨true,fun w=>by simp [Op.eqFields],sm⟩
 | f :: fs,h=>by
  obtain⟨hn,d,hd,hx,hy,b,hr,hb⟩:=h f d₆
  obtain⟨b',hr',hb'⟩:=vQ hT (fs:=fs) (fun j hj=>h j (d₂ _ hj))
  have hn':f.name≠ "_" :=by simpa using hn
  cases b with
  | false=>
   refine⟨false,fun w=>?_,?_⟩
   ·simp only [Op.eqFields,if_pos hn',Sem.run_bind,gU hT hd hx TD.size_one,gU hT hd hy TD.size_one,hr,Result.andThen_ok]
    simp
   ·simp only [e₀,forall_eq_or_imp,c₂,false_iff,not_and]
    intro e
    exact absurd (hb.2 (e d hd)) sm
  | true=>
   refine⟨b',fun w=>?_,?_⟩
   ·simp only [Op.eqFields,if_pos hn',Sem.run_bind,gU hT hd hx TD.size_one,gU hT hd hy TD.size_one,hr,Result.andThen_ok]
    simpa using hr' w
   ·simp only [e₀,forall_eq_or_imp]
    rw [hb']
    refine⟨fun h=>⟨fun d' hd'=>?_,h⟩,fun h=>h.2⟩
    rw [hd] at hd'
    injection hd' with hd'
    subst hd'
    exact hb.1 rfl
theorem pP {T:bf} {f:Nat} {cs:List Value}: ∀{fs:List (Nat×TypeId)},fs.foldr (fun x K=>(match bf.find T x.2 with | some d=>jk T f x.2 ((cs.drop x.1).take d.size) | none=>False)∧K) True→∀x∈fs,∃d,bf.find T x.2=some d∧jk T f x.2 ((cs.drop x.1).take d.size)
 | [],_,x,hx=>by cases hx
 | y :: fs,h,x,hx=>by
  simp only [f₅] at h
  rcases e₀.1 hx with rfl | hx
  ·have h1:=h.1
   split at h1
   ·rename_i d hd;exact⟨d,hd,h1⟩
   ·exact h1.elim
  ·exact pP h.2 x hx
theorem xg (hT:bL P T) {e:TypeId} {d:TD} {es:Nat} (hd:bf.find T e=some d) (hs:fa P e es=true):d.size=es:=by
 have hsd:=TD.fits_size (hT.fits hd);unfold fa at hs hsd;split at hs
 ·rename_i i hi';rw [hi'] at hsd;simp at hs hsd;omega
 ·cases hs
theorem xh (hT:bL P T): ∀(f:Nat) {t:TypeId},sn P T f t=true→∀{D:Nat},f≤D→∀{xs ys:List Value},jk T f t xs→jk T f t ys→Df P T D t xs ys
 | 0,_,h,_,_,_,_,_,_=>by cases h
 | f + 1,t,h,D,hD,xs,ys,hx,hy=>by
  obtain⟨D,rfl⟩: ∃D',D=D' + 1:=⟨D - 1,om⟩
  unfold sn at h
  unfold Df
  have hx0:=hx
  have hy0:=hy
  unfold jk at hx hy
  unfold vP
  split at h
  ·rename_i k hd
   rw [hd] at hx hy ⊢
   obtain⟨a,rfl⟩:=hx
   obtain⟨b,rfl⟩:=hy
   exact⟨a == b,fun w=>run_equalIn_int w D t k k a b (TD.fits_int (hT.fits hd)),sm⟩
  ·rename_i hd
   rw [hd] at hx hy ⊢
   obtain⟨a,rfl⟩:=hx
   obtain⟨b,rfl⟩:=hy
   exact⟨a == b,fun w=>run_equalIn_bool' w D t a b (TD.fits_bool (hT.fits hd)),sm⟩
  ·rename_i hd
   rw [hd] at hx hy ⊢
   obtain⟨a,rfl⟩:=hx
   obtain⟨b,rfl⟩:=hy
   refine⟨a.toList == b.toList,fun w=>run_equalIn_string w D t a b (TD.fits_str (hT.fits hd)),?_⟩
   rw [ByteArray.toList_eq,ByteArray.toList_eq]
   obtain⟨⟨x⟩⟩:=a
   obtain⟨⟨y⟩⟩:=b
   simp
  ·rename_i n e es hd
   simp only [a₁] at h
   obtain⟨hpos,hf⟩:=h
   have hpos:0 < es:=by simpa [h₂] using hpos
   rw [hd] at hx hy ⊢
   obtain⟨lx,cx⟩:=hx
   obtain⟨ly,cy⟩:=hy
   obtain⟨hu,hs⟩:=TD.fits_arr (hT.fits hd)
   obtain⟨i,hi⟩: ∃i,P.info? e=some i:=by
    unfold fa at hs
    split at hs
    ·rename_i i hi;exact⟨i,hi⟩
    ·cases hs
   cases hde:bf.find T e with
   | none=>
    cases f with
    | zero=>cases hf
    | succ f=>unfold sn at hf;rw [hde] at hf;cases hf
   | some d=>
    have hes:=xg hT hde hs
    subst hes
    have hc:P.cellsOf e=d.size:=by
     have:=TD.fits_size (hT.fits hde)
     unfold fa at this
     rw [hi] at this
     simp at this
     simp [Program.cellsOf,hi,this]
    have hseg: ∀(zs:List Value),zs.length=n * d.size→∀i,i < n→((zs.drop (i * d.size)).take d.size).length=d.size:=by
     intro zs hz i hi
     rw [a₅,c₁,hz]
     have:(i + 1) * d.size≤n * d.size:=f₈ _ hi
     rw [f₂] at this
     omega
    obtain⟨b,hr,hb⟩:=yR hT hde (D:=D) (xs:=xs) (ys:=ys) (is:=List.range n) (fun i hi=>by
     have hi:=h₅.1 hi
     exact⟨hseg xs lx i hi,hseg ys ly i hi,xh hT f hf om (cx i hi) (cy i hi)⟩)
    refine⟨b,fun w=>?_,?_⟩
    ·have:=run_equalIn_array (P:=P) w D (t:=t) (e:=e) (n:=n) (i:=i) ⟨xs⟩ ⟨ys⟩ hu hi
     rw [hc] at this
     exact this.trans (hr w)
    ·rw [hb]
     constructor
     ·intro h
      exact Kf hpos lx ly fun i hi=>h i (h₅.2 hi)
     ·rintro rfl i _;rfl
  ·rename_i fs sz hd
   simp only [a₁,g₇] at h
   obtain⟨⟨⟨hst,hnm⟩,hsg⟩,hfl⟩:=h
   rw [hd] at hx hy ⊢
   obtain⟨lx,cx⟩:=hx
   obtain⟨ly,cy⟩:=hy
   obtain⟨fields,hu,hfs,_,_⟩:=TD.fits_struct (hT.fits hd)
   have hfo:P.fieldsOf t=fields:=by simp [Program.fieldsOf,hu]
   have hu':P.underlying t=some (.struct (P.fieldsOf t)):=by rw [hfo];exact hu
   have mem: ∀g∈fields.toList,(g.offset,g.type)∈fs:=by
    intro g hg
    rw [← hfs]
    exact f₃.2 ⟨g,hg,rfl⟩
   obtain⟨b,hr,hb⟩:=vQ hT (D:=D) (xs:=xs) (ys:=ys) (fs:=(P.fieldsOf t).toList) (fun g hg=>by
    refine⟨by simpa using b₇.1 hnm g hg,?_⟩
    rw [hfo] at hg
    have hm:=mem g hg
    obtain⟨d,hdg,hcx⟩:=pP cx _ hm
    obtain⟨d',hdg',hcy⟩:=pP cy _ hm
    rw [hdg] at hdg'
    injection hdg' with e
    subst e
    exact⟨d,hdg,yQ hdg hcx,yQ hdg hcy,xh hT f (b₇.1 hfl _ hm) om hcx hcy⟩)
   refine⟨b,fun w=>?_,?_⟩
   ·exact(run_equalIn_agg w D t ⟨xs⟩ ⟨ys⟩ hu' hst).trans (hr w)
   ·rw [hb]
    constructor
    ·intro h
     refine De lx ly hsg sm fun x hx d hdx=>?_
     rw [← hfs] at hx
     obtain⟨g,hg,rfl⟩:=f₃.1 hx
     rw [← hfo] at hg
     exact h g hg d hdx
    ·rintro rfl f _ d _;rfl
  ·cases h
theorem yS (hT:bL P T) {t:TypeId} {d:TD} (hd:bf.find T t=some d) (ha:d.agg=true) (hf:sn P T 9 t=true) (hg:P.eqGuardType P.depth t=false) (x y:Operand) {xs ys:List Value} (hx:jk T 9 t xs) (hy:jk T 9 t ys) :
  ∃b:Bool,(∀w,(do eqGuard .eql t x y (.agg ⟨xs⟩) (.agg ⟨ys⟩);binOp .eql t (.agg ⟨xs⟩) (.agg ⟨ys⟩):Sem Value).run P w= .ok (.bool b) w)∧
   (∀w,(do eqGuard .neq t x y (.agg ⟨xs⟩) (.agg ⟨ys⟩);binOp .neq t (.agg ⟨xs⟩) (.agg ⟨ys⟩):Sem Value).run P w= .ok (.bool (!b)) w)∧(b=true↔xs=ys):=by
 obtain⟨b,hr,hb⟩:=xh hT 9 hf (D:=10000) (by decide) hx hy
 unfold vP at hr
 rw [hd] at hr
 simp only [ha] at hr
 refine⟨b,fun w=>?_,fun w=>?_,hb⟩
 ·rw [Sem.run_bind,run_eqGuard_agg w .eql t x y _ _ hg,Result.andThen_ok,run_eql_struct,hr];rfl
 ·rw [Sem.run_bind,run_eqGuard_agg w .neq t x y _ _ hg,Result.andThen_ok,run_neq_struct,hr];rfl
end
end
section
structure aX (A:Type) where
 runP:(A→Prop)→Prop
 get:Option A
 ok: ∀(K:A→Prop) (a:A),get=some a→K a→runP K
def aX.ret {A:Type} (a:A):aX A:=⟨fun K=>K a,some a,fun _ _ h k=>by injection h with h;subst h;exact k⟩
def aX.bad {A:Type}:aX A:=⟨fun _=>False,none,fun _ _ h=>nomatch h⟩
def aX.ask {A α:Type} (o:Option α) (k:α→aX A):aX A:=⟨fun K=> ∃a,o=some a∧(k a).runP K,match o with | some a=>(k a).get | none=>none,fun K b h hb=>by
 cases o with
 | none=>cases h
 | some a=>exact ⟨a,rfl,(k a).ok K b h hb⟩⟩
def aX.prf {A:Type} (p:Prop) (d:Decidable p) (k:aX A):aX A:=⟨fun K=>p∧k.runP K,match d with | isTrue _=>k.get | isFalse _=>none,fun K b h hb=>by
 cases d with
 | isFalse _=>cases h
 | isTrue hp=>exact ⟨hp,k.ok K b h hb⟩⟩
def aX.br {A:Type} (t:Bool) (x y:aX A):aX A:=⟨fun K=>(t=true→x.runP K)∧(t=false→y.runP K),match t with | true=>x.get | false=>y.get,fun K b h hb=>by
 cases t with
 | true=>exact ⟨fun _=>x.ok K b h hb,fun e=>(nomatch e)⟩
 | false=>exact ⟨fun e=>(nomatch e),fun _=>y.ok K b h hb⟩⟩
def aX.bind {A B:Type} (x:aX A) (f:A→aX B):aX B:=⟨fun K=>x.runP fun a=>(f a).runP K,match x.get with | some a=>(f a).get | none=>none,fun K b h hb=>by
 cases hx:x.get with
 | none=>rw [hx] at h;cases h
 | some a=>rw [hx] at h;exact x.ok _ a hx ((f a).ok K b h hb)⟩
theorem aX.bind_runP {A B:Type} {f:A→aX B} {K:B→Prop} {x:aX A}:(x.bind f).runP K↔x.runP fun a=>(f a).runP K:=Iff.rfl
abbrev VE:=List (Nat×MV)
abbrev VM:=List (Nat×MB)
def VE.get:VE→Nat→Option MV
 | [],_=>none
 | (j,v) :: E,i=>bif a₀ j i then some v else VE.get E i
def VM.get:VM→Nat→Option MB
 | [],_=>none
 | (j,v) :: E,i=>bif a₀ j i then some v else VM.get E i
def VM.del:VM→Nat→VM
 | [],_=> []
 | (j,v) :: M,i=>bif a₀ j i then VM.del M i else(j,v) :: VM.del M i
def VM.upd:VM→Nat→List MV→VM
 | [],_,_=> []
 | (j,v) :: M,i,l=>bif a₀ j i then(j,{ v with l:=l }) :: VM.upd M i l else(j,v) :: VM.upd M i l
def VM.bump1:VM→Nat→Nat→VM
 | [],_,_=> []
 | (j,v) :: M,i,n=>bif a₀ j i then(j,{ v with pe:=Nat.max v.pe n }) :: VM.bump1 M i n else(j,v) :: VM.bump1 M i n
def VM.bump:VM→List (Nat×Nat)→VM
 | M,[] =>M
 | M,(c,n) :: l=>VM.bump (VM.bump1 M c n) l
inductive Dl where
 | none
 | new (b:MB)
 | upd (c:Nat) (l:List MV)
 | mv (c:Nat) (b:MB)
 | bump (l:List (Nat×Nat))
def cJ:FM→List (Nat×Nat)→FM
 | m,[] =>m
 | m,(c,n) :: l=>cJ (match m c with | some b=>aN m c { b with pe:=Nat.max b.pe n } | none=>m) l
def Dl.appF (cnt:Nat):Dl→FM→FM
 | .none,m=>m
 | .new b,m=>aN m cnt b
 | .upd c l,m=>match m c with | some b=>aN m c { b with l:=l } | Option.none=>m
 | .mv c b,m=>aN (iF m c) cnt b
 | .bump l,m=>cJ m l
def Dl.app (cnt:Nat):Dl→VM→VM
 | .none,M=>M
 | .new b,M=>(cnt,b) :: M
 | .upd c l,M=>VM.upd M c l
 | .mv c b,M=>(cnt,b) :: VM.del M c
 | .bump l,M=>VM.bump M l
def Bw:Value→Option MV
 | .int k n=>some (.int k n)
 | .bool b=>some (.bool b)
 | .string s=>some (.str s.data.toList)
 | .pointer none=>some .nilp
 | .slice none 0 0=>some .nils
 | .nilFunc=>some .nilf
 | .nilIface=>some .nili
 | .func (.func f) ⟨[]⟩ ⟨[]⟩=>some (.fn f [])
 | _=>none
def iD (E:Nat→Option MV):Operand→Option MV
 | .tmp t=>E t
 | .const v=>Bw v
 | .global g=>some (.gp g 0)
 | .func f=>some (.fn f [])
def rd {A:Type} (E:Nat→Option MV) (x:Operand) (k:MV→aX A):aX A:=match iD E x with | some m=>k m | none=> .bad
def ln {A:Type} (E:Nat→Option MV):List Operand→(List MV→aX A)→aX A
 | [],k=>k []
 | x :: l,k=>rd E x fun m=>ln E l fun r=>k (m :: r)
def Kg {A:Type} (E:Nat→Option MV):Option Operand→(Option MV→aX A)→aX A
 | none,k=>k none
 | some x,k=>rd E x fun m=>k (some m)
def repM:Nat→MV→List MV
 | 0,_=> []
 | n + 1,z=>z :: repM n z
def gl (T:bf):Nat→Nat→Option MV
 | 0,_=>none
 | f + 1,t=>match bf.find T t with
  | some (.int k)=>some (.int k 0)
  | some .bool=>some (.bool false)
  | some .str=>some (.str [])
  | some .ptr=>some .nilp
  | some .iface=>some .nili
  | some .fn=>some .nilf
  | some (.slice ..)=>some .nils
  | some (.arr n e es)=>match gl T f e with
   | some z=>bif z.idFree && a₀ z.size es then some (.arr n es (repM n z)) else none
   | none=>none
  | some (.struct fs _)=>match fs.foldr (fun x r=>match r,gl T f x.2 with | some r,some z=>some (z :: r) | _,_=>none) (some []) with
   | some l=>some (.st l)
   | none=>none
  | _=>none
def Kh:Bool→Bool→Bool
 | true,true=>true
 | false,false=>true
 | _,_=>false
def MV.isVal:MV→Bool
 | .tup _=>false
 | .mpv .. =>false
 | .undef=>false
 | _=>true
def dX (d:TD) (v:MV):Bool:=(v.isVal && a₀ v.size d.size) && Kh v.isAgg d.agg
def val {A α:Type} (x:α) (k:α→aX A):aX A:= .ask (some x) k
def GY (op:BinOp) (k:IntKind) (m n:Int):aX MV:=match op with
 | .add=>val (k.wrap (m + n)) fun r=> .ret (.int k r)
 | .sub=>val (k.wrap (m - n)) fun r=> .ret (.int k r)
 | .mul=>val (k.wrap (m * n)) fun r=> .ret (.int k r)
 | .quo=> .prf (n≠0) inferInstance (val (k.wrap (m.tdiv n)) fun r=> .ret (.int k r))
 | .rem=> .prf (n≠0) inferInstance (val (m.tmod n) fun r=> .ret (.int k r))
 | .eql=> .ret (.bool (m == n))
 | .neq=> .ret (.bool (m !=n))
 | .lss=> .ret (.bool (decide (m < n)))
 | .leq=> .ret (.bool (decide (m≤n)))
 | .gtr=> .ret (.bool (decide (n < m)))
 | .geq=> .ret (.bool (decide (n≤m)))
 | .shl=> .prf (0≤n) inferInstance (val (k.wrap (m * 2 ^ (min n.toNat k.bits))) fun r=> .ret (.int k r))
 | .shr=> .prf (0≤n) inferInstance (val (m.fdiv (2 ^ (min n.toNat k.bits))) fun r=> .ret (.int k r))
 | .and=>val (k.wrap (BitVec.ofInt k.bits m &&& BitVec.ofInt k.bits n).toNat) fun r=> .ret (.int k r)
 | .or=>val (k.wrap (BitVec.ofInt k.bits m ||| BitVec.ofInt k.bits n).toNat) fun r=> .ret (.int k r)
 | .xor=>val (k.wrap (BitVec.ofInt k.bits m ^^^ BitVec.ofInt k.bits n).toNat) fun r=> .ret (.int k r)
 | .andNot=>val (k.wrap (BitVec.ofInt k.bits m &&& ~~~BitVec.ofInt k.bits n).toNat) fun r=> .ret (.int k r)
def Ki (op:BinOp) (s t:List UInt8):aX MV:=match op with
 | .add=> .prf (s.length + t.length≤9223372036854775807) inferInstance (val (s ++ t) fun r=> .ret (.str r))
 | .eql=> .ret (.bool (s == t))
 | .neq=> .ret (.bool (!(s == t)))
 | .lss=> .ret (.bool (Op.bytesLess s t))
 | .leq=> .ret (.bool (Op.bytesLess s t || s == t))
 | .gtr=> .ret (.bool (!(Op.bytesLess s t || s == t)))
 | .geq=> .ret (.bool (!Op.bytesLess s t))
 | _=> .bad
def GZ (op:BinOp) (s t:Bool):aX MV:=match op with
 | .eql=> .ret (.bool (s == t))
 | .neq=> .ret (.bool (s !=t))
 | _=> .bad
mutual
def GO:MV→MV→Option Bool
 | .int k a, .int j b=>match decide (k=j) with | true=>some (decide (a=b)) | false=>none
 | .bool a, .bool b=>some (a == b)
 | .str a, .str b=>some (a == b)
 | .st l, .st r=>rC l r
 | .arr n es l, .arr n' es' r=>bif a₀ n n' && a₀ es es' then rC l r else none
 | _,_=>none
def rC:List MV→List MV→Option Bool
 | [],[] =>some true
 | a :: l,b :: r=>match GO a b,rC l r with
  | some x,some y=>some (x && y)
  | _,_=>none
 | _,_=>none
end
mutual
def dh (T:bf):Nat→Nat→MV→Bool
 | 0,_,_=>false
 | f + 1,t,m=>match bf.find T t,m with
  | some (.int k), .int j _=>a₀ (EF j) (EF k)
  | some .bool, .bool _=>true
  | some .str, .str _=>true
  | some (.arr n e es), .arr n' es' l=>a₀ n n' && a₀ es es' && l.all (dh T f e)
  | some (.struct fs sz), .st l=>iq T f fs 0 l sz
  | _,_=>false
def iq (T:bf):Nat→List (Nat×TypeId)→Nat→List MV→Nat→Bool
 | _,[],o,[],sz=>a₀ o sz
 | f,(o',t) :: fs,o,m :: l,sz=>a₀ o o' && (match bf.find T t with | some d=>a₀ m.size d.size && dh T f t m && iq T f fs (o + d.size) l sz | none=>false)
 | _,_,_,_,_=>false
end
def so:Nat→MV→Option Bool
 | 0, .nilp=>some true
 | 0, .ptr .. =>some false
 | 0, .gp .. =>some false
 | 0, .ep .. =>some false
 | 1, .nils=>some true
 | 1, .sl (_ + 1) _=>some false
 | 2, .nili=>some true
 | 2, .ifc .. =>some false
 | _,_=>none
def Dg (n:Nat) (j:Int):Option Nat:=if 0≤j∧j < (n:Int) then some j.toNat else none
def cS (l:List MV) (n:Nat) (j:Int):Option MV:=if 0≤j∧j < (n:Int) then l[j.toNat]? else none
def EH (s:List UInt8) (j:Int):Option UInt8:=if 0≤j then s[j.toNat]? else none
def cF (n:Nat) (lo hi:Option MV):Option (Nat×Nat):=
 match (match hi with | none=>some n | some (.int _ h)=>if 0≤h∧h≤(n:Int) then some h.toNat else none | _=>none) with
 | none=>none
 | some h=>match (match lo with | none=>some 0 | some (.int _ l)=>if 0≤l∧l≤(h:Int) then some l.toNat else none | _=>none) with
  | none=>none
  | some l=>some (l,h)
def kn:List MV→Option (List UInt8)
 | [] =>some []
 | .int .u8 n :: l=>if 0≤n∧n < 256 then(match kn l with | some r=>some (UInt8.ofNat n.toNat :: r) | none=>none) else none
 | _ :: _=>none
def bE:List MV→Nat→Bool
 | [],_=>true
 | m :: _,es=>a₀ m.size es
def cutL (l:List MV) (a b:Nat):List MV:=(l.drop a).take (b - a)
def u8s (s:List UInt8):List MV:=s.map fun b=> .int .u8 b.toNat
section
variable (P:Program) (T:bf) (E:Nat→Option MV) (M:FM) (cnt:Nat)
mutual
def cM:MV→aX (MV×List (Nat×Nat))
 | .ms c es off n=>match M c with
  | some b=>match b.row && a₀ b.es es with
   | true=> .prf (off + n≤b.l.length) inferInstance (val (cutL b.l off (off + n)) fun l=> .ret (.sl n l,[(c,off + n)]))
   | false=> .bad
  | none=> .bad
 | .nils=> .ret (.sl 0 [],[])
 | .st l=>(fh l).bind fun r=> .ret (.st r.1,r.2)
 | .fn f l=>(fh l).bind fun r=> .ret (.fn f r.1,r.2)
 | .ifc t v=>(cM v).bind fun r=> .ret (.ifc t r.1,r.2)
 | .ptr c es k fo path=>match M c with
  | some b=>bif a₀ b.es es then .ask (bH b.l k) fun v=>(bif v.idFree then .ret (.ep v fo path,[(c,k + 1)]) else .bad) else .bad
  | none=> .bad
 | .tup _=> .bad
 | .undef=> .bad
 | .mp _=> .bad
 | .mpv .. => .bad
 | m=> .ret (m,[])
def fh:List MV→aX (List MV×List (Nat×Nat))
 | [] => .ret ([],[])
 | m :: l=>(cM m).bind fun x=>(fh l).bind fun r=> .ret (x.1 :: r.1,x.2 ++ r.2)
end
def pureA (m:MV):aX (MV×Dl):= .ret (m, .none)
def fS (t:TypeId) (p:MV):aX (MV×Dl):=match bf.find T t with
 | none=> .bad
 | some d=>match p with
  | .ptr c es k fo path=>match M c with
   | some b=>bif a₀ b.es es then .ask (bH b.l k) fun m=> .ask (fb m path fo) fun r=>(bif dX d r then pureA r else .bad) else .bad
   | none=> .bad
  | .ep v fo path=> .ask (fb v path fo) fun r=>bif dX d r then pureA r else .bad
  | _=> .bad
def ff (t:TypeId) (p v:MV):aX (MV×Dl):=match bf.find T t with
 | none=> .bad
 | some d=>match p with
  | .ptr c es k fo path=>match M c with
   | some b=>bif a₀ b.es es && dX d v && (!b.row || v.idFree) then .prf (b.pe≤k) inferInstance (.ask (bH b.l k) fun m=> .ask (fL m path fo v) fun m'=>val (setL b.l k m') fun l=> .ret (.undef, .upd c l)) else .bad
   | none=> .bad
  | _=> .bad
def fE (t:TypeId) (p:MV) (f:Nat):aX (MV×Dl):=match bf.find T t with
 | some (.struct fs _)=>match Kb fs f with
  | some (o,_)=>match p with
   | .ptr c es k fo path=>pureA (.ptr c es k (fo + o) (path ++ [f]))
   | .ep v fo path=>pureA (.ep v (fo + o) (path ++ [f]))
   | .gp g off=>pureA (.gp g (off + o))
   | _=> .bad
  | none=> .bad
 | _=> .bad
def fF (t:TypeId) (x j:MV):aX (MV×Dl):=match bf.find T t with
 | some (.slice _ es)=>match x,j with
  | .sl n l, .int _ j=> .ask (cS l n j) fun m=>bif a₀ m.size es then pureA (.ep m 0 []) else .bad
  | .ms c es' off n, .int _ j=>bif a₀ es' es then .ask (Dg n j) fun k=>pureA (.ptr c es (off + k) 0 []) else .bad
  | _,_=> .bad
 | some (.arr n _ es)=>match x,j with
  | .ptr c es' k fo path, .int _ j=> .ask (Dg n j) fun i=>pureA (.ptr c es' k (fo + i * es) (path ++ [i]))
  | .ep v fo path, .int _ j=> .ask (Dg n j) fun i=>pureA (.ep v (fo + i * es) (path ++ [i]))
  | .gp g off, .int _ j=> .ask (Dg n j) fun i=>pureA (.gp g (off + i * es))
  | _,_=> .bad
 | _=> .bad
def nC (t:TypeId) (x j:MV):aX (MV×Dl):=match bf.find T t,x,j with
 | some .str, .str s, .int _ j=> .ask (EH s j) fun c=>pureA (.int .u8 c.toNat)
 | some (.arr n e es), .arr n' es' l, .int _ j=>match bf.find T e with
  | some d=>bif a₀ n n' && a₀ es es' then .ask (cS l n j) fun m=>(bif dX d m then pureA m else .bad) else .bad
  | none=> .bad
 | _,_,_=> .bad
def nD (t:TypeId) (x:MV) (f:Nat):aX (MV×Dl):=match bf.find T t,x with
 | some (.struct fs _), .st l=>match Kb fs f,bH l f with
  | some (o,ft),some m=>match bf.find T ft with
   | some d=>bif dX d m && a₀ (ew l f) o then pureA m else .bad
   | none=> .bad
  | _,_=> .bad
 | _,_=> .bad
def nE (t:TypeId) (x:MV) (lo hi:Option MV):aX (MV×Dl):=match bf.find T t,x with
 | some .str, .str s=> .ask (cF s.length lo hi) fun r=>val ((s.drop r.1).take (r.2 - r.1)) fun u=>pureA (.str u)
 | some (.slice _ es), .sl n l=> .ask (cF n lo hi) fun r=> .prf (bE l es=true) inferInstance (val (cutL l r.1 r.2) fun u=>val (r.2 - r.1) fun k=>pureA (.sl k u))
 | some (.slice _ es), .ms c es' off n=>bif a₀ es es' then .ask (cF n lo hi) fun r=>(val (r.2 - r.1) fun k=>pureA (.ms c es (off + r.1) k)) else .bad
 | some (.slice _ _), .nils=> .ask (cF 0 lo hi) fun _=>pureA .nils
 | _,_=> .bad
def ez (t:TypeId) (x:MV) (lo hi:Option MV):aX (MV×Dl):=match bf.find T t,x with
 | some (.arr n _ es), .ptr c _ k fo path=>match M c with
  | some b=>match b.l with
   | [.arr n' es' l] =>bif a₀ k 0 && a₀ fo 0 && path.isEmpty && a₀ n n' && a₀ es es' then .ask (cF n lo hi) fun r=>val (cutL l r.1 r.2) fun u=>val (r.2 - r.1) fun j=> .ret (.sl j u, .bump [(c,1)]) else .bad
   | _=> .bad
  | none=> .bad
 | _,_=>nE T t x lo hi
def eI (l:List MV):List (Nat×MV)→Option (List MV)
 | [] =>some l
 | (i,v) :: r=>match bH l i with
  | some m=>bif a₀ v.size m.size && Kh v.isAgg m.isAgg then eI (setL l i v) r else none
  | none=>none
def lu:List MV→List Nat→Bool
 | [],[] =>true
 | m :: l,n :: ns=>a₀ m.size n && lu l ns
 | _,_=>false
def nF (t:TypeId) (parts:List (Nat×MV)):aX (MV×Dl):=match gl T 9 t,xa T t with
 | some (.st l),some ns=>bif lu l ns && parts.all (fun p=>p.2.isVal) then(match eI l parts with
  | some l'=>pureA (.st l')
  | none=> .bad) else .bad
 | some (.arr n es l),some ns=>bif lu l ns && parts.all (fun p=>p.2.isVal && p.2.idFree) then(match eI l parts with
  | some l'=>pureA (.arr n es l')
  | none=> .bad) else .bad
 | _,_=> .bad
def di (t:TypeId) (n:Nat) (parts:List (Nat×MV)):aX (MV×Dl):=match bf.find T t with
 | some (.slice e es)=>match n with
  | 0=>match parts with
   | [] => .ret (.ms cnt es 0 0, .new ⟨e,es,true,0,[]⟩)
   | _=> .bad
  | n + 1=>match gl T 9 e with
   | some z=>bif a₀ z.size es && e₁ 0 es && d₁ ((n + 1) * es) 16777216 && z.idFree && parts.all (fun p=>p.2.isVal) then(match eI (repM (n + 1) z) parts with
    | some l=> .ret (.ms cnt es 0 (n + 1), .new ⟨e,es,parts.all (fun p=>p.2.idFree),0,l⟩)
    | none=> .bad) else .bad
   | none=> .bad
 | _=> .bad
def dO (t:TypeId) (c es' off k:Nat):aX (MV×Dl):=match bf.find T t with
 | some (.slice e es)=>match gl T 9 e with
  | some z=>match M c with
   | some b=>bif a₀ z.size es && a₀ es 1 && z.idFree && !z.isAgg && b.row && a₀ b.es es' then .prf (off + k≤b.l.length) inferInstance (val (cutL b.l off (off + k)) fun l=> .ret (.ms cnt es 0 1, .mv c ⟨e,es,true,0,[.sl k l]⟩)) else .bad
   | none=> .bad
  | none=> .bad
 | _=> .bad
def mJ (n:Nat) (ps:List (Nat×MV)):Option (Nat×Nat×Nat×Nat):=match n with
 | 1=>(match ps with
  | [(0, .ms c es off k)] =>some (c,es,off,k)
  | _=>none)
 | _=>none
def NX (t:TypeId):Bool:=sn P T 9 t && !P.eqGuardType P.depth t
def vq (b:Option Bool) (op:BinOp):aX (MV×Dl):=match b with
 | some b=>match op with
  | .eql=>pureA (.bool b)
  | .neq=>pureA (.bool (!b))
  | _=> .bad
 | none=> .bad
def Mu (op:BinOp) (t:TypeId) (x y:MV):aX (MV×Dl):=match bf.find T t with
 | some d=>bif d.agg && dX d x && dX d y then .prf (NX P T t=true∧dh T 9 t x=true∧dh T 9 t y=true) inferInstance (.ask (GO x y) fun b=>vq (some b) op) else .bad
 | none=> .bad
def EI (op:BinOp) (t:TypeId) (yo:Operand) (x y:MV):aX (MV×Dl):=match y with
 | .int k' n=>match x with
  | .int k m=>bif oe op || a₀ (EF k) (EF k') then(GY op k m n).bind pureA else .bad
  | _=> .bad
 | .str u=>match x with
  | .str s=>(Ki op s u).bind pureA
  | _=> .bad
 | .bool u=>match x with
  | .bool s=>match bf.find T t with | some .bool=>(GZ op s u).bind pureA | _=> .bad
  | _=> .bad
 | .nilp=>match bf.find T t with
  | some .ptr=>vq (so 0 x) op
  | _=> .bad
 | .nils=>match bf.find T t with
  | some (.slice ..)=>vq (so 1 x) op
  | _=> .bad
 | .nili=>match bf.find T t,yo with
  | some .iface, .const _=>vq (so 2 x) op
  | _,_=> .bad
 | y=>Mu P T op t x y
def Mv (op:UnOp) (x:MV):aX (MV×Dl):=match op,x with
 | .not, .bool b=>pureA (.bool (!b))
 | .xor, .int k n=>val (k.wrap (BitVec.ofInt k.bits (if k.signed then -1 else k.max) ^^^ BitVec.ofInt k.bits n).toNat) fun r=>pureA (.int k r)
 | .neg, .int k n=>val (k.wrap (0 - n)) fun r=>pureA (.int k r)
 | _,_=> .bad
def lz (src dst:TypeId) (x:MV):aX (MV×Dl):=match bf.find T src,bf.find T dst,x with
 | some _,some (.int k), .int _ n=>val (k.wrap n) fun r=>pureA (.int k r)
 | some (.slice e _),some .str, .sl _n l=>match bf.find T e with
  | some (.int .u8)=> .ask (kn l) fun s=>pureA (.str s)
  | _=> .bad
 | some (.slice e _),some .str, .nils=>match bf.find T e with
  | some (.int .u8)=>pureA (.str [])
  | _=> .bad
 | some (.slice e _),some .str, .ms c es off n=>match bf.find T e,M c with
  | some (.int .u8),some b=>bif a₀ es 1 && a₀ b.es 1 then .prf (off + n≤b.l.length) inferInstance (.ask (kn (cutL b.l off (off + n))) fun s=>pureA (.str s)) else .bad
  | _,_=> .bad
 | some .str,some (.slice e _), .str s=>match bf.find T e with
  | some (.int .u8)=> .prf (s.length≤140737488355328) inferInstance (val (u8s s) fun l=>val s.length fun n=>pureA (.sl n l))
  | _=> .bad
 | _,_,_=> .bad
def fG (t:TypeId) (n m:MV):aX (MV×Dl):=match bf.find T t,n,m with
 | some (.slice e es), .int _ n, .int _ m=>match gl T 9 e with
  | some z=>bif a₀ z.size es && e₁ 0 es && z.idFree then .prf (n=m) inferInstance (.ask (Dg 140737488355328 n) fun k=> .ask ((P.info? e).map (·.bytes)) fun by_=> .prf (k * by_≤281474976710656) inferInstance (.ret (.ms cnt es 0 k, .new ⟨e,es,true,0,repM k z⟩))) else .bad
  | none=> .bad
 | _,_,_=> .bad
def oh (es:Nat) (y:MV) (k:Bool→Nat→List MV→aX (MV×Dl)):aX (MV×Dl):=match y with
 | .sl m l=> .prf (bE l es=true) inferInstance (k true m l)
 | .nils=>k true 0 []
 | .ms c es' off m=>match M c with
  | some b=>bif a₀ es es' && a₀ b.es es then .prf (off + m≤b.l.length) inferInstance (val (cutL b.l off (off + m)) fun l=>k b.row m l) else .bad
  | none=> .bad
 | _=> .bad
def fq (ats:List TypeId) (x y:MV):aX (MV×Dl):=match ats with
 | [t,u] =>bif a₀ t u then(match bf.find T t with
  | some (.slice e es)=>match gl T 9 e with
   | some z=>bif a₀ z.size es && e₁ 0 es then .ask ((P.info? e).map (·.bytes)) fun by_=>oh M es y fun fl m l=>(match x with
    | .nils=> .prf (m * by_≤140737488355328∧m≤maxLen) inferInstance (bif fl || e₁ 0 m then .ret (.ms cnt es 0 m, .new ⟨e,es,fl,0,l⟩) else .bad)
    | .ms c es' off n=>match M c with
     | some b=>bif a₀ off 0 && a₀ es es' && a₀ b.es es && (b.row && fl || e₁ 0 (n + m)) && a₀ b.ty e then .prf (b.l.length=n∧(n + m) * by_≤140737488355328∧n + m≤maxLen) inferInstance (val (b.l ++ l) fun r=>val (n + m) fun k=> .ret (.ms cnt es 0 k, .mv c ⟨e,es,b.row && fl,b.pe,r⟩)) else .bad
     | none=> .bad
    | _=> .bad) else .bad
   | none=> .bad
  | _=> .bad) else .bad
 | _=> .bad
def G0 (t:Option TypeId) (x:MV):aX (MV×Dl):=match t.bind (bf.find T),x with
 | some .str, .str s=>val (s.length:Int) fun r=>pureA (.int .i64 r)
 | some (.slice ..), .sl n _=>pureA (.int .i64 n)
 | some (.slice ..), .nils=>pureA (.int .i64 0)
 | some (.slice ..), .ms _ _ _ n=>pureA (.int .i64 n)
 | some (.arr n _ _),_=>pureA (.int .i64 n)
 | _,_=> .bad
def G4 (c a b:MV):aX (MV×Dl):=match c with
 | .bool t=> .br t (pureA a) (pureA b)
 | _=> .bad
def ko (t:TypeId):aX (MV×Dl):=match bf.find T t,gl T 9 t with
 | some d,some z=>bif dX d z then .ret (.ptr cnt d.size 0 0 [], .new ⟨t,d.size,false,0,[z]⟩) else .bad
 | _,_=> .bad
def yT (t:TypeId) (v:MV):aX (MV×Dl):=match bf.find T t with
 | some d=>bif dX d v then .ret (.ptr cnt d.size 0 0 [], .new ⟨t,d.size,false,0,[v]⟩) else .bad
 | none=> .bad
def jB (v:MV):aX (MV×Dl):=match v with
 | .ptr .. | .gp .. | .ep .. | .fn .. | .ifc .. =>pureA v
 | _=> .bad
def su (t:TypeId) (v:MV):aX (MV×Dl):=match bf.find T t with
 | some .iface=> .bad
 | some .other=> .bad
 | some d=>bif dX d v then pureA (.ifc t v) else .bad
 | none=> .bad
def oi (fn:Fn) (first:Array Operand) (ys:List MV):aX (MV×Dl):=match fn,first.toList with
 | .func f,[] =>bif ys.all MV.isVal then pureA (.fn f ys) else .bad
 | _,_=> .bad
def lA (x:MV) (i:Nat):aX (MV×Dl):=match x with
 | .tup vs=>match bH vs i with | some m=>pureA m | none=> .bad
 | _=> .bad
def ir (t:Option TypeId) (x:MV):aX (MV×Dl):=match t.bind (bf.find T),x with
 | some (.slice e es), .ms c es' off n=>match M c,gl T 9 e with
  | some b,some z=>bif a₀ es es' && a₀ b.es es && a₀ z.size es && e₁ 0 es then .prf (off + n≤b.l.length∧b.pe≤off) inferInstance (val (b.l.take off ++ (repM n z ++ b.l.drop (off + n))) fun l=> .ret (.tup [], .upd c l)) else .bad
  | _,_=> .bad
 | _,_=> .bad
def cT (b:Builtin) (ats:Array TypeId) (vs:List MV):aX (MV×Dl):=match b with
 | .len=>match vs with | [x] =>G0 T (ats[0]?) x | _=> .bad
 | .append=>match vs with | [x,y] =>fq P T M cnt ats.toList x y | _=> .bad
 | .clear=>match vs with | [x] =>ir T M (ats[0]?) x | _=> .bad
 | .min=>match vs with | [.int k x, .int _ y] =>val (if y < x then y else x) fun r=>pureA (.int k r) | _=> .bad
 | .max=>match vs with | [.int k x, .int _ y] =>val (if y > x then y else x) fun r=>pureA (.int k r) | _=> .bad
 | _=> .bad
def findM (s:List UInt8):List MV→Nat→Option (Option Nat)
 | [],_=>some none
 | .str x :: l,i=>bif s == x then some (some i) else findM s l (i + 1)
 | _ :: _,_=>none
def Kj (t:TypeId):Option TypeId:=match P.underlying t with
 | some (.map k e)=>(match P.underlying k with | some .string=>some e | _=>none)
 | _=>none
def G5:Option Value→Bool
 | some (.agg _)=>true
 | _=>false
def rN (t:TypeId):Option MV:=match gl T 9 t with
 | some z=>bif Kh z.isAgg (G5 ((P.info? t).bind (·.zero))) then some z else none
 | none=>none
def yU (t:TypeId):aX (MV×Dl):= .ret (.mp cnt, .new ⟨t,0,false,0,[.mpv [] []]⟩)
def fu (t:TypeId) (m k x:MV):aX (MV×Dl):=match m,k with
 | .mp c, .str s=>match M c with
  | some b=>match b.l with
   | [.mpv ks vs] =>bif x.isVal && x.idFree then .prf (vs.length=ks.length) inferInstance (.ask (Kj P t) fun _=> .ask (findM s ks 0) fun r=>(match r with
    | none=>val [.mpv (ks ++ [.str s]) (vs ++ [x])] fun l=> .ret (.undef, .upd c l)
    | some i=>val [.mpv ks (setL vs i x)] fun l=> .ret (.undef, .upd c l))) else .bad
   | _=> .bad
  | none=> .bad
 | _,_=> .bad
def xi (ok:Bool) (v:MV) (b:Bool):MV:=match ok with
 | true=> .tup [v, .bool b]
 | false=>v
def fT (t:TypeId) (m k:MV) (ok:Bool):aX (MV×Dl):=match m,k with
 | .mp c, .str s=>match M c with
  | some b=>match b.l with
   | [.mpv ks vs] => .prf (vs.length=ks.length) inferInstance (.ask (Kj P t) fun e=> .ask (findM s ks 0) fun r=>(match r with
    | none=> .ask (rN P T e) fun z=>pureA (xi ok z false)
    | some i=> .ask (bH vs i) fun v=>bif v.isVal then pureA (xi ok v true) else .bad))
   | _=> .bad
  | none=> .bad
 | _,_=> .bad
def yV (n:Int):Option Nat:=if 0≤n then some n.toNat else none
def sw (s:List UInt8) (pos:Nat):Option (Nat×Nat):=if pos < s.length then some (Utf8.decode ⟨s.toArray⟩ pos) else none
def nG (t:TypeId) (x:MV):aX (MV×Dl):=match bf.find T t,x with
 | some .str, .str s=> .ret (.ptr cnt 0 0 0 [], .new ⟨t,0,false,0,[.mpv [.str s] [.nilp, .int .i64 (0:Nat)]]⟩)
 | _,_=> .bad
def lf (x:MV) (isS:Bool):aX (MV×Dl):=match x,isS with
 | .ptr c 0 0 0 [],true=>match M c with
  | some b=>match b.l with
   | [.mpv [.str s] [.nilp, .int .i64 p]] => .ask (yV p) fun pos=>val (sw s pos) fun r=>(match r with
    | none=> .ret (.tup [.bool false], .upd c [.mpv [.str s] [.nilp, .int .i64 p]])
    | some (x,wd)=> .ret (.tup [.bool true, .int .i64 pos, .int .i32 x], .upd c [.mpv [.str s] [.nilp, .int .i64 (pos + wd:Nat)]]))
   | _=> .bad
  | none=> .bad
 | _,_=> .bad
def kq (t:TypeId) (ok:Bool) (v:MV):aX (MV×Dl):=match v,bf.find T t with
 | .ifc _ _,some .iface=> .bad
 | .ifc _ _,some .other=> .bad
 | .ifc t' u,some _=>match a₀ t' t with
  | true=>bif u.isVal then pureA (xi ok u true) else .bad
  | false=>bif ok then .ask (rN P T t) fun z=>pureA (.tup [z, .bool false]) else .bad
 | _,_=> .bad
def im (o:Oper):aX (MV×Dl):=match o.op with
 | .move x=>rd E x pureA
 | .assign x=>rd E x pureA
 | .pick c a b=>rd E c fun c=>rd E a fun a=>rd E b fun b=>G4 c a b
 | .alloc t=>ko T cnt t
 | .box t x=>rd E x fun v=>yT T cnt t v
 | .build t parts=>ln E (parts.toList.map (·.2)) fun vs=>nF T t ((parts.toList.map (·.1)).zip vs)
 | .buildSlice t n parts=>ln E (parts.toList.map (·.2)) fun vs=>match mJ n ((parts.toList.map (·.1)).zip vs) with
  | some x=>dO T M cnt t x.1 x.2.1 x.2.2.1 x.2.2.2
  | none=>di T cnt t n ((parts.toList.map (·.1)).zip vs)
 | .load t x=>rd E x fun p=>fS T M t p
 | .store t x y=>rd E x fun p=>rd E y fun v=>ff T M t p v
 | .nilCheck x=>rd E x jB
 | .binOp op t x y _=>rd E x fun u=>rd E y fun v=>EI P T op t y u v
 | .unOp op _ x=>rd E x fun v=>Mv op v
 | .convert src dst x=>rd E x fun v=>lz T M src dst v
 | .makeInterface t x=>rd E x fun v=>su T t v
 | .makeFunc fn first captured=>ln E captured.toList fun ys=>oi fn first ys
 | .makeSlice t l c=>rd E l fun l=>rd E c fun c=>fG P T cnt t l c
 | .slice t x lo hi mx=>match mx with
  | none=>rd E x fun x=>Kg E lo fun lo=>Kg E hi fun hi=>ez T M t x lo hi
  | some _=> .bad
 | .fieldAddr t x f=>rd E x fun p=>fE T t p f
 | .field t x f=>rd E x fun v=>nD T t v f
 | .indexAddr t x ix=>rd E x fun v=>rd E ix fun i=>fF T t v i
 | .index t x ix=>rd E x fun v=>rd E ix fun i=>nC T t v i
 | .extract x i=>rd E x fun x=>lA x i
 | .makeMap t r=>match r with
  | none=>yU cnt t
  | some _=> .bad
 | .mapUpdate t m k x=>rd E m fun m=>rd E k fun k=>rd E x fun x=>fu P M t m k x
 | .lookup t m k ok=>rd E m fun m=>rd E k fun k=>fT P T M t m k ok
 | .typeAssert x _ t ok=>rd E x fun v=>kq P T t ok v
 | .range t x=>rd E x fun v=>nG T cnt t v
 | .next x isS=>rd E x fun v=>lf M v isS
 | .call c=>match c.callee with
  | .builtin b=>ln E c.args.toList fun vs=>cT P T M cnt b c.argTypes vs
  | _=> .bad
 | _=> .bad
end
end
section
def bu (w:World) (P:bC) (adr:dV) (m:FM) (cnt:Nat) (r:MV) (δ:Dl) (u:Value) (w':World):Prop:=
 ∃(P':bC) (adr':dV),aI w' P' adr' r u∧aQ w' P' adr' (δ.appF cnt m)∧bg w w' P P' adr adr'∧(∀c,c≠cnt→adr' c=adr c)∧
  (∀g,adr' cnt=some g→w.heap.size≤g∨∃c,adr c=some g)∧bl (fun b=> ∃c,adr c=some b) w w'∧(∀b o,P' b o→P b o∨w.heap.size≤b∨∃c,adr c=some b)
def EJ (Pg:Program) (o:Oper) (a:Act) (w:World) (Q:Value→World→Prop):Prop:=
 (∃u w',(execOp a.eval o).run Pg w= .ok (.value u) w'∧Q u w')∨(∃w',(execOp a.eval o).run Pg w= .ok .skip w'∧Q undef w')
section
variable {Pg:Program} {T:bf} {w w':World} {P P':bC} {adr adr':dV} {m:FM} {cnt:Nat} {K:MV×Dl→Prop} {u v x y:Value} {r:MV}
theorem bu.pure (hI:aQ w P adr m) (hn:adr cnt=none) (h:aI w P adr r u):bu w P adr m cnt r .none u w:=
 ⟨P,adr,h,hI,bg.refl _ _ _,fun _ _=>rfl,fun g (hg:adr cnt=some g)=>(by rw [hn] at hg;cases hg),bl.refl _ _,fun _ _ h=> .inl h⟩
theorem EJ.val {o:Oper} {a:Act} {Q:Value→World→Prop} (s:Sem Value) (ho:execOp a.eval o=(do pure (.value (← s)))) (hr:s.run Pg w= .ok u w') (h:Q u w'):EJ Pg o a w Q:=
 .inl ⟨u,w',by rw [ho,Sem.run_bind,hr];rfl,h⟩
theorem EJ.unit {o:Oper} {a:Act} {Q:Value→World→Prop} (s:Sem Unit) (ho:execOp a.eval o=(do s;pure .skip)) (hr:s.run Pg w= .ok () w') (h:Q undef w'):EJ Pg o a w Q:=
 .inr ⟨w',by rw [ho,Sem.run_bind,hr];rfl,h⟩
theorem sx {cs:List Value} (h:r.isAgg=true):valM r cs= .agg ⟨cs⟩:=by unfold valM;rw [h];rfl
theorem yW (h:r.isAgg=false) (v:Value):valM r [v] =v:=by unfold valM;rw [h];rfl
theorem aI.int_ {k:IntKind} {n:Int} (h:aI w P adr (.int k n) u):u= .int k n:=by cases h with | val cs h=>cases h;rfl
theorem aI.undef_ (h:aI w P adr .undef u):u=Go.undef:=by cases h with | val cs h=>cases h | undef=>rfl
theorem aI.bool_ {b:Bool} (h:aI w P adr (.bool b) u):u= .bool b:=by cases h with | val cs h=>cases h;rfl
theorem aI.str_ {s:List UInt8} (h:aI w P adr (.str s) u):u= .string ⟨s.toArray⟩:=by cases h with | val cs h=>cases h;rfl
theorem aI.nilp_ (h:aI w P adr .nilp u):u= .pointer none:=by cases h with | val cs h=>cases h;rfl
theorem aI.nils_ (h:aI w P adr .nils u):u= .slice none 0 0:=by cases h with | val cs h=>cases h;rfl
theorem aI.nili_ (h:aI w P adr .nili u):u= .nilIface:=by cases h with | val cs h=>cases h;rfl
theorem aI.gp_ {g o:Nat} (h:aI w P adr (.gp g o) u):u= .pointer (some ⟨g,o,none⟩):=by cases h with | val cs h=>cases h;rfl
theorem aI.ptr_ {c es k fo:Nat} {path:List Nat} (h:aI w P adr (.ptr c es k fo path) u): ∃g,adr c=some g∧u= .pointer (some ⟨g,k * es + fo,none⟩):=by
 cases h with | val cs h=>cases h with | ptr g h=>exact ⟨g,h,rfl⟩
theorem aI.ep_ {fo:Nat} {path:List Nat} (h:aI w P adr (.ep r fo path) u): ∃(b o:Nat) (vs:List Value),u= .pointer (some ⟨b,o + fo,none⟩)∧(∀(j:Nat) x,vs[j]? =some x→w.cell? ⟨b,o + j,none⟩=some x∧P b (o + j))∧bF w P noAdr r vs:=by
 cases h with | val cs h=>cases h with | ep b o vs hc hr=>exact ⟨b,o,vs,rfl,hc,hr⟩
theorem aI.sl_ {n:Nat} {l:List MV} (h:aI w P adr (.sl n l) u): ∃(A:Option Addr) (cap es:Nat) (parts:List (List Value)),u= .slice A n cap∧l.length=n∧parts.length=n∧(∀p∈parts,p.length=es)∧(A=none→n=0∧cap=0)∧n≤cap∧
  (n≠0→∃b o,A=some ⟨b,o,none⟩∧∀(j:Nat) x,parts.flatten[j]? =some x→w.cell? ⟨b,o + j,none⟩=some x∧P b (o + j))∧(∀(j:Nat) m p,l[j]? =some m→parts[j]? =some p→bF w P noAdr m p):=by
 cases h with | val cs h=>cases h with | sl A cap es parts h1 h2 h3 h4 h7 h5 h6=>exact ⟨A,cap,es,parts,rfl,h1,h2,h3,h4,h7,h5,h6⟩
theorem aI.ms_ {c es off n:Nat} (h:aI w P adr (.ms c es off n) u):(u= .slice none 0 0∧off=0∧n=0)∨∃g o cap,adr c=some g∧u= .slice (some ⟨g,o,none⟩) n cap∧(n≠0∨off=0→o=off * es)∧n≤cap∧cap≤maxLen∧
  ∃cur ty,w.heap[g]? =some (.cells cur ty (0,0))∧(off=0→cur.size=cap * es):=by
 cases h with | val cs h=>cases h with
  | ms0=>exact .inl ⟨rfl,rfl,rfl⟩
  | ms g o cap h1 h2 h3 h4 h5=>exact .inr ⟨g,o,cap,h1,rfl,h2,h3,h4,h5⟩
theorem aI.agg_ (h:aI w P adr r u) (ha:r.isAgg=true): ∃cs,bF w P adr r cs∧u= .agg ⟨cs⟩:=by
 cases h with
 | val cs h=>exact ⟨cs,h,sx ha⟩
 | undef=>cases ha
 | tup=>cases ha
theorem gV {d:TD} {r:MV} (h:dX d r=true):r.size=d.size∧r.isAgg=d.agg∧r.isVal=true:=by
 unfold dX at h;rw [a₁,a₁] at h;refine⟨a₂ h.1.2,?_,h.1.1⟩;have h2:=h.2;cases ha:r.isAgg <;> cases hb:d.agg <;> rw [ha,hb] at h2 <;> first | rfl | cases h2
theorem lB {d:TD} (h:aI w P adr r u) (hf:dX d r=true): ∃cs,bF w P adr r cs∧u=valM r cs∧cs.length=d.size:=by
 obtain⟨hs,_,hv⟩:=gV hf;cases h with
 | val cs h=>exact ⟨cs,h,rfl,by rw [h.size,hs]⟩
 | undef=>cases hv
 | tup=>cases hv
theorem vR (hT:bL Pg T) {t:TypeId} {d:TD} (hd:bf.find T t=some d) {b o:Nat} {cs:List Value} (hr:bF w P adr r cs) (hf:dX d r=true) (hc: ∀(j:Nat) x,cs[j]? =some x→w.cell? ⟨b,o + j,none⟩=some x) :
  (Instr.loadAt t (.pointer (some ⟨b,o,none⟩))).run Pg w= .ok (valM r cs) w:=by
 obtain⟨hs,ha,_⟩:=gV hf
 have hl:cs.length=d.size:=by rw [hr.size,hs]
 have hld:(loadVar t ⟨b,o,none⟩).run Pg w= .ok (valM r cs) w:=by
  cases hg:d.agg with
  | true=>
   rw [sx (by rw [ha,hg])]
   exact PS hT hd hg hl (fun j v hv=>hc j v hv) (Below.refl _ _)
  | false=>
   have hra:r.isAgg=false:=by rw [ha,hg]
   obtain⟨v,rfl⟩:=hr.scalar hra
   rw [yW hra]
   have:=hc 0 v rfl
   exact PR hT hd hg (o:=o) (j:=0) (p:=o) (cs:= [v]) (fun j x hx=>hc j x hx) rfl rfl (Below.refl _ _)
 simp only [Instr.loadAt,Instr.sureAddr,Sem.run_bind,Sem.run_pure,Result.andThen_ok]
 exact hld
theorem EK {ks vs:List MV} {path:List Nat} {fo:Nat} {r:MV} (h:fb (.mpv ks vs) path fo=some r):r.isVal=false:=by
 cases path with
 | nil=>
  have h:(bif a₀ fo 0 then some (MV.mpv ks vs) else none)=some r:=h;cases hb:a₀ fo 0 with
  | false=>rw [hb] at h;cases h
  | true=>rw [hb] at h;injection h with h;subst h;rfl
 | cons i p=>simp [fb] at h
theorem sy (hT:bL Pg T) {t:TypeId} {p:MV} (h:(fS T m t p).runP K) (hp:aI w P adr p u) (hI:aQ w P adr m) :
  ∃r v,K (r, .none)∧(Instr.loadAt t u).run Pg w= .ok v w∧aI w P adr r v:=by
 unfold fS at h
 split at h
 ·exact h.elim
 rename_i d hd
 split at h
 ·rename_i c es k fo path
  split at h
  ·rename_i b hb
   cases hes:a₀ b.es es with
   | false=>rw [hes] at h;exact h.elim
   | true=>
    rw [hes] at h
    have hes:=a₂ hes
    obtain⟨x,hx,r,hr,h⟩:=h
    replace h:aX.runP (bif dX d r then pureA r else .bad) K:=h
    cases hf:dX d r with
    | false=>rw [hf] at h;exact h.elim
    | true=>
     rw [hf] at h
     obtain⟨g,hg,rfl⟩:=hp.ptr_
     rw [bD] at hx
     rcases hI.blk c b hb with h1 | ⟨g',h1,h2⟩
     ·rw [hg] at h1;cases h1.2.2.1
     ·rw [hg] at h1
      injection h1 with h1
      subst h1
      obtain⟨cur,parts,h3,h4,h5,h6,h7⟩:=h2.ofX hx (fun ks vs e=>by subst e;have:=EK hr;rw [(gV hf).2.2] at this;cases this)
      obtain⟨q,hq⟩:=bX h4 hx
      have hrep:bF w P adr x q:=by
       have:=h6 k x q hx hq
       cases hrow:b.row <;> rw [hrow] at this
       ·exact this
       ·exact this.ofNone
      obtain⟨pre,cs,post,e1,e2,h8⟩:=mH hrep hr
      refine⟨r,_,h,vR hT hd h8 hf (fun j y hy=>?_), .val cs h8⟩
      have hlt:=(a₃.1 hq).1
      have hpre:(parts.take k).flatten.length=k * es:=by
       rw [aM (es:=b.es) fun x hx=>h5 x (b₄ hx),a₅,b₉ om,hes]
      have hfl:parts.flatten[k * es + fo + j]? =some y:=by
       rw [bJ hq,e1,b₅,b₈ om,hpre]
       rw [b₅,b₅,b₈ om,b₃ (by have:=(a₃.1 hy).1;omega)]
       rw [show k * es + fo + j - k * es - pre.length=j by omega]
       exact hy
      rw [cell_of_row w g _ cur b.ty (0,0) h3]
      have:=cI h7 hfl
      simpa using this
  ·exact h.elim
 ·rename_i v0 fo path
  obtain⟨r,hr,h⟩:=h
  replace h:aX.runP (bif dX d r then pureA r else .bad) K:=h
  cases hf:dX d r with
  | false=>rw [hf] at h;exact h.elim
  | true=>
   rw [hf] at h
   obtain⟨b,o,vs,rfl,hc,hv⟩:=hp.ep_
   obtain⟨pre,cs,post,e1,e2,h8⟩:=mH hv hr
   refine⟨r,_,h,vR hT hd h8 hf (fun j y hy=>?_), .val cs h8.ofNone⟩
   have:=(hc (fo + j) y (by rw [e1,b₅,b₈ om,b₃ (by have:=(a₃.1 hy).1;omega),show fo + j - pre.length=j by omega];exact hy)).1
   rw [show o + fo + j=o + (fo + j) by omega]
   exact this
 ·exact h.elim
end
end
section
section
variable {Pg:Program} {T:bf} {w w':World} {P P':bC} {adr adr':dV} {m:FM} {cnt:Nat} {K:MV×Dl→Prop} {u v x y:Value} {r:MV}
theorem EL {cs:List Value} (h:bF w P adr r cs):(valM r cs).cells.size=cs.length:=by rw [← Array.length_toList,kh h]
theorem EM {ks vs:List MV} {path:List Nat} {fo:Nat} {v r:MV} (h:fL (.mpv ks vs) path fo v=some r) (hv:v.isVal=true):False:=by
 cases path with
 | nil=>
  have h:(bif a₀ fo 0 && a₀ v.size 0 then(match v.isAgg,false with | true,true | false,false=>some v | _,_=>none) else none)=some r:=h;cases hb:(a₀ fo 0 && a₀ v.size 0) with
  | false=>rw [hb] at h;cases h
  | true=>
   rw [hb] at h;rw [a₁] at hb;have h1:=a₂ hb.2;cases v with
   | st l=>simp [MV.isAgg] at h
   | arr n es l=>simp [MV.isAgg] at h
   | mpv=>cases hv
   | _=>simp [MV.size] at h1
 | cons i p=>simp [fL] at h
theorem sC (hT:bL Pg T) {t:TypeId} {p q:MV} (h:(ff T m t p q).runP K) (hp:aI w P adr p u) (hq:aI w P adr q v) (hI:aQ w P adr m) (cnt:Nat) :
  ∃δ w',K (.undef,δ)∧(Instr.storeAt t u v).run Pg w= .ok () w'∧aQ w' P adr (δ.appF cnt m)∧bg w w' P P adr adr∧bl (fun b=> ∃c,adr c=some b) w w':=by
 unfold ff at h
 split at h
 ·exact h.elim
 rename_i d hd
 split at h
 ·rename_i c es k fo path
  split at h
  ·rename_i b hb
   cases hes:(a₀ b.es es && dX d q && (!b.row || q.idFree)) with
   | false=>rw [hes] at h;exact h.elim
   | true=>
    rw [hes] at h
    rw [a₁,a₁] at hes
    obtain⟨⟨hes,hf⟩,hrow⟩:=hes
    have hes:=a₂ hes
    obtain⟨hpe,x,hx,x',hx',l,hl,h⟩:=h
    injection hl with hl
    subst hl
    obtain⟨g,hg,rfl⟩:=hp.ptr_
    rw [bD] at hx
    obtain⟨cs,hcs,rfl,hcl⟩:=lB hq hf
    rcases hI.blk c b hb with h1 | ⟨g',h1,h2⟩
    ·rw [hg] at h1;cases h1.2.2.1
    ·rw [hg] at h1
     injection h1 with h1
     subst h1
     obtain⟨cur,parts,h3,h4,h5,h6,h7⟩:=h2.ofX hx (fun ks vs e=>by subst e;exact EM hx' (gV hf).2.2)
     obtain⟨z,hz⟩:=bX h4 hx
     have hcs':bF w P (if b.row then noAdr else adr) q cs:=by
      cases hr:b.row with
      | false=>exact hcs
      | true=>rw [hr] at hrow;exact hcs.free (by simpa using hrow)
     obtain⟨pre,old,post,e1,e2,e3,h8,h9,h10⟩:=pO (h6 k x z hx hz) hx' hcs'
     have hlt:=(a₃.1 hz).1
     have hpre:(parts.take k).flatten.length=k * es:=by
      rw [aM (es:=b.es) fun x hx=>h5 x (b₄ hx),a₅,b₉ om,hes]
     obtain⟨tl,htl⟩:=h7
     have hcurl:cur.toList=(parts.take k).flatten ++ (pre ++ old ++ post) ++ ((parts.drop (k + 1)).flatten ++ tl):=by
      rw [← htl,bJ hz,e1];simp
     have hoff:((parts.take k).flatten ++ pre).length=k * es + fo:=by rw [a₆,hpre,e2]
     have hsize:cur.size=k * es + fo + old.length + post.length + ((parts.drop (k + 1)).flatten ++ tl).length:=by
      rw [← Array.length_toList,hcurl]
      simp only [a₆] at hoff ⊢
      omega
     have hst:=run_storeCells_at Pg g (k * es + fo) b.ty cs 0 cur w h3 om hcs.one
     have htake:cur.toList.take (k * es + fo + 0)=(parts.take k).flatten ++ pre:=by
      rw [hcurl,g₅,← hoff]
      rw [show (parts.take k).flatten ++ (pre ++ old ++ post) ++ ((parts.drop (k + 1)).flatten ++ tl)=((parts.take k).flatten ++ pre) ++ (old ++ post ++ ((parts.drop (k + 1)).flatten ++ tl)) by simp]
      exact e₅
     have hdrop:cur.toList.drop (k * es + fo + 0 + cs.length)=post ++ ((parts.drop (k + 1)).flatten ++ tl):=by
      rw [hcurl,g₅,← e3,← hoff]
      rw [show (parts.take k).flatten ++ (pre ++ old ++ post) ++ ((parts.drop (k + 1)).flatten ++ tl)=(((parts.take k).flatten ++ pre) ++ old) ++ (post ++ ((parts.drop (k + 1)).flatten ++ tl)) by simp]
      rw [← a₆]
      exact e₆
     rw [htake,hdrop] at hst
     have hw:=hI.write (b':={ b with l:=setL b.l k x' }) (by simp [setL_eq]) hb hg rfl rfl rfl h3 (cur':=((parts.take k).flatten ++ pre ++ cs ++ (post ++ ((parts.drop (k + 1)).flatten ++ tl))).toArray)
      (by simp only [d₀,a₆] at hoff hsize ⊢;omega)
      (fun o ho=>by
       have h11:=h2.pe o ho
       have h12:b.pe * b.es≤k * es:=by rw [hes];exact f₈ _ hpe
       have e4:cur[o]? =cur.toList[o]? :=sm
       rw [e4,hcurl]
       have e5:((parts.take k).flatten ++ pre ++ cs ++ (post ++ ((parts.drop (k + 1)).flatten ++ tl))).toArray[o]? =((parts.take k).flatten ++ pre ++ cs ++ (post ++ ((parts.drop (k + 1)).flatten ++ tl)))[o]? :=sm
       rw [e5]
       simp only [b₅]
       rw [b₃ om,b₃ om])
      (parts:=parts.set k (pre ++ cs ++ post)) (by simp [setL_eq,h4])
      (fun p hp=>by
       rcases f₁ hp with hp | rfl
       ·exact h5 p hp
       ·have:=h5 z (a₈ hz)
        rw [e1] at this
        simp only [a₆] at this ⊢
        show _=b.es
        omega)
      (fun j y z' hy hz'=>by
       have hy:(setL b.l k x')[j]? =some y:=hy
       rw [setL_eq] at hy
       rcases bK hy with ⟨rfl,rfl⟩ | ⟨hne,hy⟩
       ·rcases bK hz' with ⟨_,rfl⟩ | ⟨hne,_⟩
        ·exact h8
        ·exact absurd rfl hne
       ·rcases bK hz' with ⟨rfl,_⟩ | ⟨_,hz'⟩
        ·exact absurd rfl hne
        ·exact h6 j y z' hy hz')
      ⟨tl,by rw [jj hz];simp⟩
     refine⟨.upd c (setL b.l k x'),_,h,?_,?_,hw.2,?_⟩
     ·have hs2:=bj (TD.fits_size (hT.fits hd)) w
      simp only [Instr.storeAt,Instr.sureAddr,Sem.run_bind,Sem.run_pure,Result.andThen_ok,storeVar,hs2,EL hcs,hcl]
      simp only [ne_eq,not_true_eq_false,if_false,kh hcs]
      exact hst
     ·have e6:Dl.appF cnt (.upd c (setL b.l k x')) m=aN m c { b with l:=setL b.l k x' }:=by
       show(match m c with | some b=>_ | none=>m)=_
       rw [hb]
      rw [e6]
      exact hw.1
     ·exact⟨rfl,rfl,rfl,sm,fun b' hb' hne=>setRow_other _ _ _ _ fun e=>hne ⟨c,by rw [e];exact hg⟩⟩
  ·exact h.elim
 ·exact h.elim
theorem EN (hT:bL Pg T) {t:TypeId} {p q:MV} (h:(ff T m t p q).runP K) (hp:aI w P adr p u) (hq:aI w P adr q v) (hI:aQ w P adr m) (hn:adr cnt=none) :
  ∃δ w',K (.undef,δ)∧(Instr.storeAt t u v).run Pg w= .ok () w'∧bu w P adr m cnt .undef δ undef w':=by
 obtain⟨δ,w',h1,h2,h3,h4,h5⟩:=sC hT h hp hq hI cnt
 exact⟨δ,w',h1,h2,P,adr, .undef,h3,h4,fun _ _=>rfl,fun g hg=>(by rw [hn] at hg;cases hg),h5,fun _ _ h=> .inl h⟩
theorem vr (hT:bL Pg T) {t:TypeId} {p:MV} {f:Nat} (h:(fE T t p f).runP K) (hp:aI w P adr p u) :
  ∃r v,K (r, .none)∧(Instr.fieldAt t u f).run Pg w= .ok v w∧aI w P adr r v:=by
 unfold fE at h
 split at h
 ·rename_i fs sz hd
  have hf:=hT.fits hd
  split at h
  ·rename_i o ft hnth
   obtain⟨fields,hu,h3,h4,_⟩:=TD.fits_struct hf
   obtain⟨fd,hfd,ho⟩: ∃fd:Field,fields.toList[f]? =some fd∧fd.offset=o:=by
    rw [se,← h3,b₀,c₇] at hnth
    obtain⟨fd,h5,h6⟩:=hnth
    exact⟨fd,h5,congrArg Prod.fst h6⟩
   have hfd':fields[f]? =some fd:=by simpa using hfd
   have hpos: ∃n,fa Pg fd.type n=true∧0 < n:=by
    have:=b₇.1 h4 fd (a₈ hfd)
    unfold w7 at this
    split at this
    ·rename_i i hi
     exact⟨i.size,by simp [fa,hi],by simpa using this⟩
    ·cases this
   obtain⟨n,hn,hn0⟩:=hpos
   have key: ∀(w:World) (b off:Nat),(Instr.fieldAt t (.pointer (some ⟨b,off,none⟩)) f).run Pg w= .ok (.pointer (some ⟨b,off + o,none⟩)) w:=by
    intro w b off
    have hs:=bj hn w
    have hn1:n≠0:=om
    simp only [Instr.fieldAt,Instr.sureAddr,fieldPlace,Sem.run_bind,run_underlying hu,Result.andThen_ok,hfd',Sem.run_pure,hs,hn1,if_false,ho,Addr.add_mid]
   split at h
   ·obtain⟨g,hg,rfl⟩:=hp.ptr_
    refine⟨_,_,h,key _ _ _,?_⟩
    rw [e₉]
    exact .val [_] (.ptr g hg)
   ·obtain⟨b,o',vs,rfl,hc,hv⟩:=hp.ep_
    refine⟨_,_,h,key _ _ _,?_⟩
    rw [e₉]
    exact .val [_] (.ep b o' vs hc hv)
   ·rw [hp.gp_]
    exact⟨_,_,h,key _ _ _, .val [_] .gp⟩
   ·exact h.elim
  ·exact h.elim
 ·exact h.elim
theorem oo {n:Nat} {j:Int} {k:Nat} (h:Dg n j=some k):j=(k:Int)∧k < n:=by
 unfold Dg at h;split at h
 ·injection h with h;omega
 ·cases h
theorem yX {l:List MV} {n:Nat} {j:Int} {x:MV} (h:cS l n j=some x): ∃k:Nat,j=(k:Int)∧k < n∧l[k]? =some x:=by
 unfold cS at h;split at h
 ·exact⟨j.toNat,om,om,h⟩
 ·cases h
theorem vu (hT:bL Pg T) {t:TypeId} {p j:MV} (h:(fF T t p j).runP K) (hp:aI w P adr p u) (hj:aI w P adr j v) :
  ∃r y,K (r, .none)∧(Instr.indexAt t u v).run Pg w= .ok y w∧aI w P adr r y:=by
 unfold fF at h
 split at h
 ·rename_i e es hd
  obtain⟨hu,hs⟩:=TD.fits_slice (hT.fits hd)
  have key: ∀(A:Option Addr) (b o len cap k:Nat) (k0:IntKind),A=some ⟨b,o,none⟩→k < len→(Instr.indexAt t (.slice A len cap) (.int k0 (k:Int))).run Pg w= .ok (.pointer (some ⟨b,o + k * es,none⟩)) w:=by
   intro A b o len cap k k0 hA hk
   subst hA
   have hi:(0:Int)≤(k:Int)∧(k:Int) < (len:Int):=⟨om,om⟩
   simp only [Instr.indexAt,asIntOf,Sem.run_bind,Sem.run_pure,Result.andThen_ok,run_underlying hu,bj hs,hi,and_self,if_true,c₈,Addr.add_mid]
  split at h
  ·obtain⟨x,hx,h⟩:=h
   replace h:aX.runP (bif a₀ x.size es then pureA (.ep x 0 []) else .bad) K:=h
   cases hes:a₀ x.size es with
   | false=>rw [hes] at h;exact h.elim
   | true=>
    rw [hes] at h
    have hes:=a₂ hes
    rw [hj.int_]
    obtain⟨k,rfl,hk,hx⟩:=yX hx
    obtain⟨A,cap,es',parts,rfl,h1,h2,h3,h4,_,h5,h6⟩:=hp.sl_
    obtain⟨b,o,hA,hc⟩:=h5 om
    obtain⟨q,hq⟩:=bX (h2.trans h1.symm) hx
    have hrep:=h6 k x q hx hq
    have hql:=h3 q (a₈ hq)
    have hee:es'=es:=by rw [← hql,hrep.size,hes]
    subst hee
    refine⟨_,_,h,key A b o _ cap k _ hA hk,?_⟩
    refine .val [_] ?_
    have:=bF.ep (w:=w) (P:=P) (adr:=adr) (v:=x) (fo:=0) (path:= []) b (o + k * es') q (fun j y hy=>?_) hrep
    ·simpa using this
    ·have hpre:(parts.take k).flatten.length=k * es':=by
      rw [aM (es:=es') fun x hx=>h3 x (b₄ hx),a₅,b₉ om]
     have hfl:parts.flatten[k * es' + j]? =some y:=by
      rw [bJ hq,b₅,b₈ om,hpre,b₃ (by have:=(a₃.1 hy).1;omega),show k * es' + j - k * es'=j by omega]
      exact hy
     have:=hc _ y hfl
     rw [show o + k * es' + j=o + (k * es' + j) by omega]
     exact this
  ·rename_i c es' off n k1 j1
   cases hes:a₀ es' es with
   | false=>rw [hes] at h;exact h.elim
   | true=>
    rw [hes] at h
    have hes:=a₂ hes
    subst hes
    obtain⟨k,hk,h⟩:=h
    obtain⟨hk1,hk2⟩:=oo hk
    rw [hj.int_,hk1]
    rcases hp.ms_ with ⟨_,_,h0⟩ | ⟨g,o,cap,hg,rfl,ho,_⟩
    ·omega
    ·have ho:=ho (.inl om)
     subst ho
     refine⟨_,_,h,key _ g (off * es') _ cap k _ rfl hk2, .val [_] ?_⟩
     have:=bF.ptr (w:=w) (P:=P) (adr:=adr) (c:=c) (es:=es') (k:=off + k) (fo:=0) (path:= []) g hg
     rw [Nat.add_mul,g₅] at this
     exact this
  ·exact h.elim
 ·rename_i len e es hd
  obtain⟨hu,hs⟩:=TD.fits_arr (hT.fits hd)
  have key: ∀(w:World) (b o k:Nat) (k0:IntKind),k < len→(Instr.indexAt t (.pointer (some ⟨b,o,none⟩)) (.int k0 (k:Int))).run Pg w= .ok (.pointer (some ⟨b,o + k * es,none⟩)) w:=by
   intro w b o k k0 hk
   have hi:(0:Int)≤(k:Int)∧(k:Int) < (len:Int):=⟨om,om⟩
   simp only [Instr.indexAt,Instr.sureAddr,asIntOf,Sem.run_bind,Sem.run_pure,Result.andThen_ok,run_underlying hu,bj hs,hi,and_self,if_true,c₈,Addr.add_mid]
  split at h
  ·obtain⟨k,hk,h⟩:=h
   obtain⟨hk1,hk2⟩:=oo hk
   rw [hj.int_,hk1]
   obtain⟨g,hg,rfl⟩:=hp.ptr_
   refine⟨_,_,h,key _ _ _ _ _ hk2,?_⟩
   rw [e₉]
   exact .val [_] (.ptr g hg)
  ·obtain⟨k,hk,h⟩:=h
   obtain⟨hk1,hk2⟩:=oo hk
   rw [hj.int_,hk1]
   obtain⟨b,o',vs,rfl,hc,hv⟩:=hp.ep_
   refine⟨_,_,h,key _ _ _ _ _ hk2,?_⟩
   rw [e₉]
   exact .val [_] (.ep b o' vs hc hv)
  ·obtain⟨k,hk,h⟩:=h
   obtain⟨hk1,hk2⟩:=oo hk
   rw [hj.int_,hk1,hp.gp_]
   exact⟨_,_,h,key _ _ _ _ _ hk2, .val [_] .gp⟩
  ·exact h.elim
 ·exact h.elim
end
end
section
section
variable {Pg:Program} {T:bf} {w w':World} {P P':bC} {adr adr':dV} {m:FM} {cnt:Nat} {K:MV×Dl→Prop} {u v x y:Value} {r:MV}
theorem yY (hT:bL Pg T) {t:TypeId} {d:TD} (hd:bf.find T t=some d) {pre cs post:List Value} (h:bF w P adr r cs) (hf:dX d r=true) (w0:World) {o:Nat} (ho:pre.length=o) :
  (part t ⟨pre ++ cs ++ post⟩ o).run Pg w0= .ok (valM r cs) w0:=by
 obtain⟨hs,ha,_⟩:=gV hf
 have hl:cs.length=d.size:=by rw [h.size,hs]
 have hsz:=bj (TD.fits_size (hT.fits hd)) w0
 subst ho
 cases hg:d.agg with
 | true=>
  rw [sx (by rw [ha,hg])]
  simp only [part,Sem.run_bind,TD.fits_agg (hT.fits hd),hg,Result.andThen_ok,if_true,hsz,Sem.run_pure]
  have:(⟨pre ++ cs ++ post⟩:Array Value).extract pre.length (pre.length + d.size)=⟨cs⟩:=by
   apply Array.toList_inj.1
   simp only [Array.toList_extract,g₄]
   rw [b₅,e₆,show pre.length + d.size - pre.length=d.size by omega,← hl,e₅]
  rw [this]
 | false=>
  have hra:r.isAgg=false:=by rw [ha,hg]
  obtain⟨v,rfl⟩:=h.scalar hra
  rw [yW hra]
  simp only [part,Sem.run_bind,TD.fits_agg (hT.fits hd),hg,Result.andThen_ok,c₂,if_false]
  have:(⟨pre ++ [v] ++ post⟩:Array Value)[pre.length]? =some v:=sm
  rw [this];rfl
theorem EO (hT:bL Pg T) {t:TypeId} {p j:MV} (h:(nC T t p j).runP K) (hp:aI w P adr p u) (hj:aI w P adr j v) :
  ∃r y,K (r, .none)∧(Instr.index t u v).run Pg w= .ok y w∧aI w P adr r y:=by
 unfold nC at h
 split at h
 ·rename_i s k0 j hd
  obtain⟨c,hc,h⟩:=h
  have hu:=TD.fits_str (hT.fits hd)
  rw [hp.str_,hj.int_]
  refine⟨_, .int .u8 c.toNat,h,?_, .val [_] .int⟩
  unfold EH at hc
  split at hc
  ·rename_i h0
   have hb:(⟨s.toArray⟩:ByteArray)[j.toNat]? =some c:=by
    rw [← hc]
    have hlt:=(a₃.1 hc).1
    have:j.toNat < (⟨s.toArray⟩:ByteArray).size:=by simpa [ByteArray.size] using hlt
    rw [getElem?_pos (⟨s.toArray⟩:ByteArray) j.toNat this,a₄ hlt]
    rfl
   simp [Instr.index,asIntOf,run_underlying hu,h0,hb]
  ·cases hc
 ·rename_i n e es n' es' l k0 j hd
  split at h
  ·rename_i d hde
   cases hb:(a₀ n n' && a₀ es es') with
   | false=>rw [hb] at h;exact h.elim
   | true=>
    rw [hb] at h
    rw [a₁] at hb
    have e1:=a₂ hb.1
    have e2:=a₂ hb.2
    subst e1;subst e2
    obtain⟨x,hx,h⟩:=h
    replace h:aX.runP (bif dX d x then pureA x else .bad) K:=h
    cases hf:dX d x with
    | false=>rw [hf] at h;exact h.elim
    | true=>
     rw [hf] at h
     obtain⟨k,rfl,hk,hx⟩:=yX hx
     rw [hj.int_]
     obtain⟨cs,hcs,rfl⟩:=hp.agg_ rfl
     cases hcs with
     | arr parts h1 h2 h3 h4=>
      obtain⟨hu,hs⟩:=TD.fits_arr (hT.fits hd)
      obtain⟨q,hq⟩:=bX (h2.trans h1.symm) hx
      have hrep:=(h4 k x q hx hq).ofNone (adr:=adr)
      have hpre:(parts.take k).flatten.length=k * es:=by
       rw [aM (es:=es) fun x hx=>h3 x (b₄ hx),a₅,b₉ om]
      refine⟨x,valM x q,h,?_, .val q hrep⟩
      have hi:(0:Int)≤(k:Int)∧(k:Int) < (n:Int):=⟨om,om⟩
      have hpr:=yY hT hde (pre:=(parts.take k).flatten) (post:=(parts.drop (k + 1)).flatten) hrep hf w hpre
      rw [← bJ hq] at hpr
      simp only [Instr.index,asIntOf,Sem.run_bind,Sem.run_pure,Result.andThen_ok,run_underlying hu,hi,and_self,if_true,bj hs,c₈]
      exact hpr
  ·exact h.elim
 ·exact h.elim
theorem EP (hT:bL Pg T) {t:TypeId} {p:MV} {f:Nat} (h:(nD T t p f).runP K) (hp:aI w P adr p u) :
  ∃r y,K (r, .none)∧(Instr.field t u f).run Pg w= .ok y w∧aI w P adr r y:=by
 unfold nD at h
 split at h
 ·rename_i fs sz l hd
  split at h
  ·rename_i o ft x hn hx
   split at h
   ·rename_i d hde
    cases hb:(dX d x && a₀ (ew l f) o) with
    | false=>rw [hb] at h;exact h.elim
    | true=>
     rw [hb] at h
     rw [a₁] at hb
     have ho:=a₂ hb.2
     obtain⟨fields,hu,hfs,_,_⟩:=TD.fits_struct (hT.fits hd)
     rw [se] at hn
     rw [← hfs] at hn
     simp only [b₀,c₇] at hn
     obtain⟨fl,hfl,he⟩:=hn
     injection he with he1 he2
     subst he2
     have hfl':fields[f]? =some fl:=by simpa using hfl
     rw [bD] at hx
     obtain⟨cs,hcs,rfl⟩:=hp.agg_ rfl
     cases hcs with
     | st parts h2 h4=>
      obtain⟨q,hq⟩:=bX h2 hx
      have hrep:=h4 f x q hx hq
      have hpre:(parts.take f).flatten.length=fl.offset:=by
       rw [km h2 fun j m p h1 h2=>(h4 j m p h1 h2).size,ho,← he1]
      refine⟨x,valM x q,h,?_, .val q hrep⟩
      have hpr:=yY hT hde (pre:=(parts.take f).flatten) (post:=(parts.drop (f + 1)).flatten) hrep hb.1 w hpre
      rw [← bJ hq] at hpr
      simp only [Instr.field,Sem.run_bind,Result.andThen_ok,run_underlying hu,hfl',asAgg,Sem.run_pure]
      exact hpr
   ·exact h.elim
  ·exact h.elim
 ·exact h.elim
theorem iR {n:Nat} {lo hi:Option MV} {l h:Nat} (hb:cF n lo hi=some (l,h)):l≤h∧h≤n∧(hi=none∧h=n∨∃k,hi=some (.int k h))∧(lo=none∧l=0∨∃k,lo=some (.int k l)):=by
 have h1: ∀{hi:Option MV} {h:Nat},(match hi with | none=>some n | some (.int _ h)=>if 0≤h∧h≤(n:Int) then some h.toNat else none | _=>none)=some h→h≤n∧(hi=none∧h=n∨∃k,hi=some (.int k h)):=by
  intro hi h he;split at he
  ·injection he with he;exact⟨om, .inl ⟨rfl,he.symm⟩⟩
  ·rename_i k j;split at he
   ·injection he with he
    refine⟨om, .inr ⟨k,?_⟩⟩;rw [← he];congr;omega
   ·cases he
  ·cases he
 have h2: ∀{lo:Option MV} {l h:Nat},(match lo with | none=>some 0 | some (.int _ l)=>if 0≤l∧l≤(h:Int) then some l.toNat else none | _=>none)=some l→l≤h∧(lo=none∧l=0∨∃k,lo=some (.int k l)):=by
  intro lo l h he;split at he
  ·injection he with he;exact⟨om, .inl ⟨rfl,he.symm⟩⟩
  ·rename_i k j;split at he
   ·injection he with he
    refine⟨om, .inr ⟨k,?_⟩⟩;rw [← he];congr;omega
   ·cases he
  ·cases he
 unfold cF at hb;split at hb
 ·cases hb
 ·rename_i h' he;split at hb
  ·cases hb
  ·rename_i l' le;injection hb with hb
   injection hb with e1 e2
   subst e1;subst e2;obtain⟨a1,a2⟩:=h1 he;obtain⟨b1,b2⟩:=h2 le;exact⟨b1,a1,a2,b2⟩
def ku (w:World) (P:bC) (adr:dV):Option MV→Option Value→Prop
 | none,none=>True
 | some m,some v=>aI w P adr m v
 | _,_=>False
theorem ku.bnd {lo:Option MV} {vo:Option Value} {l d:Nat} (h:ku w P adr lo vo) (hl:lo=none∧l=d∨∃k,lo=some (.int k l)):vo=none∧l=d∨∃j,vo=some (.int j (l:Int)):=by
 rcases hl with ⟨rfl,e⟩ | ⟨k,rfl⟩
 ·cases vo with
  | none=>exact .inl ⟨rfl,e⟩
  | some v=>exact h.elim
 ·cases vo with
  | none=>exact h.elim
  | some v=>have h:aI w P adr (.int k l) v:=h;exact .inr ⟨k,by rw [h.int_]⟩
theorem cK {es:Nat} {parts:List (List Value)} (hes: ∀p∈parts,p.length=es) (a n:Nat) {j:Nat} {x:Value} (h:((parts.drop a).take n).flatten[j]? =some x):a≤parts.length→parts.flatten[a * es + j]? =some x:=by
 intro ha;have e1:parts=parts.take a ++ ((parts.drop a).take n ++ (parts.drop a).drop n):=by rw [c₅,c₅]
 have hpre:(parts.take a).flatten.length=a * es:=by
  rw [aM (es:=es) fun x hx=>hes x (b₄ hx),a₅,b₉ ha]
 rw [e1,g₂,g₂,b₈ om,hpre,show a * es + j - a * es=j by omega,b₃ (a₃.1 h).1];exact h
theorem iS {l:List MV} {a b j:Nat} {x:MV} (h:(cutL l a b)[j]? =some x):l[a + j]? =some x∧j < b - a:=by
 unfold cutL at h;rw [c₃] at h;split at h
 ·rw [c₄] at h;exact⟨h,by assumption⟩
 ·cases h
theorem Mw {n:Nat} {l:List MV} (h:aI w P adr (.sl n l) u) {a b es:Nat} (hab:a≤b) (hb:b≤n) (hh:bE l es=true) :
  ∃A cap,u= .slice A n cap∧n≤cap∧aI w P adr (.sl (b - a) (cutL l a b)) (.slice (if cap=a then A else A.map (·.add (a * es))) (b - a) (cap - a)):=by
 obtain⟨A,cap,es',parts,rfl,h1,h2,h3,h4,h7,h5,h6⟩:=h.sl_
 refine⟨A,cap,rfl,h7,?_⟩
 have hlen:(cutL l a b).length=b - a:=by unfold cutL;rw [a₅,c₁];omega
 have hes:n≠0→es'=es:=by
  intro h0
  cases l with
  | nil=>simp at h1;omega
  | cons x l=>
   have hx:=a₂ (show a₀ x.size es=true from hh)
   obtain⟨q,hq⟩:=bX (l:=x :: l) (parts:=parts) (by rw [h2,h1]) (i:=0) rfl
   have:=(h6 0 x q rfl hq).size
   rw [← hx,← this,h3 q (a₈ hq)]
 refine .val [_] (.sl _ _ es' ((parts.drop a).take (b - a)) hlen (by rw [a₅,c₁];omega) (fun p hp=>h3 p (f₉ (b₄ hp))) ?_ om ?_ ?_)
 ·intro hA
  have:A=none:=by
   split at hA
   ·exact hA
   ·cases A with
    | none=>rfl
    | some x=>cases hA
  have:=h4 this
  omega
 ·intro h0
  obtain⟨b',o,hA,hc⟩:=h5 om
  subst hA
  have hee:=hes om
  subst hee
  by_cases hcap:cap=a
  ·omega
  ·rw [if_neg hcap]
   refine⟨b',o + a * es',by simp [Addr.add_mid],fun j x hx=>?_⟩
   have:=hc _ x (cK h3 a (b - a) hx om)
   rw [show o + a * es' + j=o + (a * es' + j) by omega]
   exact this
 ·intro j x p hx hp
  obtain⟨hx,hj⟩:=iS hx
  rw [c₃,if_pos hj,c₄] at hp
  exact h6 _ x p hx hp
theorem ER (hT:bL Pg T) {t:TypeId} {p:MV} {lo hi:Option MV} {vl vh:Option Value} (h:(nE T t p lo hi).runP K) (hp:aI w P adr p u) (hl:ku w P adr lo vl) (hh:ku w P adr hi vh) :
  ∃r y,K (r, .none)∧(Instr.sliceAt t u vl vh none).run Pg w= .ok y w∧aI w P adr r y:=by
 unfold nE at h
 split at h
 ·rename_i s hd
  have hu:=TD.fits_str (hT.fits hd)
  obtain⟨⟨l,e⟩,hb,x,hx,h⟩:=h
  injection hx with hx
  subst hx
  obtain⟨h1,h2,h3,h4⟩:=iR hb
  have hsz:(⟨s.toArray⟩:ByteArray).size=s.length:=by simp [ByteArray.size]
  rw [hp.str_]
  refine⟨_, .string ⟨((s.drop l).take (e - l)).toArray⟩,h,?_, .val [_] .str⟩
  rw [run_sliceAt_string _ _ _ _ _ _ hu]
  have hbd:=dD (P:=Pg) (b:=false) (ku.bnd hl h4) (ku.bnd hh (d:=(⟨s.toArray⟩:ByteArray).size) (by rw [hsz];exact h3)) h1 (show e≤(⟨s.toArray⟩:ByteArray).size by omega) w
  simp only [Instr.slice,Sem.run_bind,run_underlying hu,Result.andThen_ok,Option.isSome_none,c₂,if_false,hbd,Sem.run_pure]
  have hx:(⟨s.toArray⟩:ByteArray).extract l e=⟨((s.drop l).take (e - l)).toArray⟩:=by
   apply ByteArray.ext
   simp [ByteArray.data_extract,g₄]
  rw [hx]
 ·rename_i e0 es n l hd
  obtain⟨hu,hs⟩:=TD.fits_slice (hT.fits hd)
  obtain⟨⟨a,b⟩,hb,hhd,x,hx,k,hk,h⟩:=h
  injection hx with hx
  injection hk with hk
  subst hx;subst hk
  obtain⟨h1,h2,h3,h4⟩:=iR hb
  obtain⟨A,cap,rfl,h5,h6⟩:=Mw hp h1 h2 hhd
  refine⟨_,_,h,?_,h6⟩
  have hu':Pg.underlying t=some (.slice (Pg.elem t)):=by rw [hu];simp [Program.elem,hu]
  rw [run_sliceAt_slice _ _ _ _ _ _ hu']
  simp [Instr.slice,run_underlying hu,dD (ku.bnd hl h4) (ku.bnd hh h3) h1 (show b≤cap by omega),bj hs]
 ·rename_i e0 es c es' off n hd
  obtain⟨hu,hs⟩:=TD.fits_slice (hT.fits hd)
  cases hes:a₀ es es' with
  | false=>rw [hes] at h;exact h.elim
  | true=>
   rw [hes] at h
   have hes:=a₂ hes
   subst hes
   obtain⟨⟨a,b⟩,hb,k,hk,h⟩:=h
   injection hk with hk
   subst hk
   obtain⟨h1,h2,h3,h4⟩:=iR hb
   have hu':Pg.underlying t=some (.slice (Pg.elem t)):=by rw [hu];simp [Program.elem,hu]
   rcases hp.ms_ with ⟨rfl,rfl,rfl⟩ | ⟨g,o,cap,hg,rfl,ho,h5,h6,cur,ty,h7,h8⟩
   ·obtain rfl:b=0:=om
    obtain rfl:a=0:=om
    refine⟨_, .slice none 0 0,h,?_, .val [_] .ms0⟩
    rw [run_sliceAt_slice _ _ _ _ _ _ hu']
    simp [Instr.slice,run_underlying hu,dD (ku.bnd hl h4) (ku.bnd hh h3) h1 (show 0≤0 by omega),bj hs]
   ·refine⟨_, .slice (if cap=a then some ⟨g,o,none⟩ else some ⟨g,o + a * es,none⟩) (b - a) (cap - a),h,?_,?_⟩
    ·rw [run_sliceAt_slice _ _ _ _ _ _ hu']
     simp [Instr.slice,run_underlying hu,dD (ku.bnd hl h4) (ku.bnd hh h3) h1 (show b≤cap by omega),bj hs,Addr.add_mid]
    ·by_cases hca:cap=a
     ·rw [if_pos hca]
      refine .val [_] (.ms g o (cap - a) hg (fun hor=>?_) om om ⟨cur,ty,h7,fun h0=>?_⟩)
      ·have:off=0∧a=0:=om
       rw [ho (.inr this.1),this.2];rfl
      ·have:off=0∧a=0:=om
       rw [h8 this.1,this.2];rfl
     ·rw [if_neg hca]
      refine .val [_] (.ms g (o + a * es) (cap - a) hg (fun hor=>?_) om om ⟨cur,ty,h7,fun h0=>?_⟩)
      ·rw [ho om,Nat.add_mul]
      ·have:off=0∧a=0:=om
       rw [h8 this.1,this.2];rfl
 ·rename_i e0 es hd
  obtain⟨hu,hs⟩:=TD.fits_slice (hT.fits hd)
  obtain⟨⟨a,b⟩,hb,h⟩:=h
  obtain⟨h1,h2,h3,h4⟩:=iR hb
  obtain rfl:b=0:=om
  obtain rfl:a=0:=om
  rw [hp.nils_]
  have hu':Pg.underlying t=some (.slice (Pg.elem t)):=by rw [hu];simp [Program.elem,hu]
  refine⟨_, .slice none 0 0,h,?_, .val [_] .nils⟩
  rw [run_sliceAt_slice _ _ _ _ _ _ hu']
  simp [Instr.slice,run_underlying hu,dD (ku.bnd hl h4) (ku.bnd hh h3) h1 (show 0≤0 by omega),bj hs]
 ·exact h.elim
theorem Mx {op:UnOp} {p:MV} (h:(Mv op p).runP K) (hp:aI w P adr p u): ∃r y,K (r, .none)∧(Op.unary op u).run Pg w= .ok y w∧aI w P adr r y:=by
 unfold Mv at h;split at h
 ·rw [hp.bool_];exact⟨_,_,h,rfl, .val [_] .bool⟩
 ·obtain⟨r,hr,h⟩:=h;injection hr with hr
  subst hr;rw [hp.int_];exact⟨_,_,h,rfl, .val [_] .int⟩
 ·obtain⟨r,hr,h⟩:=h;injection hr with hr
  subst hr;rw [hp.int_];exact⟨_,_,h,rfl, .val [_] .int⟩
 ·exact h.elim
theorem Kk (hT:bL Pg T) {ats:Array TypeId} {ty:TypeId} {p:MV} (h:(G0 T (ats[0]?) p).runP K) (hp:aI w P adr p u): ∃r y,K (r, .none)∧(Builtin.len_ ats ty #[u]).run Pg w= .ok y w∧aI w P adr r y:=by
 unfold G0 at h;cases ht:ats[0]? with
 | none=>rw [ht] at h;exact h.elim
 | some t=>
  rw [ht] at h;split at h
  ·rename_i s hd;have hu:=TD.fits_str (hT.fits (t:=t) hd);obtain⟨n,hn,h⟩:=h;injection hn with hn
   subst hn;rw [hp.str_];refine⟨_, .int .i64 s.length,h,?_, .val [_] .int⟩;have hsz:(⟨s.toArray⟩:ByteArray).size=s.length:=by simp [ByteArray.size]
   simp [Builtin.len_,ht,run_underlying hu,goInt,hsz]
  ·rename_i e es n l hd;obtain⟨hu,hs⟩:=TD.fits_slice (hT.fits (t:=t) hd);obtain⟨A,cap,es',parts,rfl,_⟩:=hp.sl_;refine⟨_, .int .i64 n,h,?_, .val [_] .int⟩;simp [Builtin.len_,ht,run_underlying hu,goInt]
  ·rename_i e es hd;obtain⟨hu,hs⟩:=TD.fits_slice (hT.fits (t:=t) hd);rw [hp.nils_];refine⟨_, .int .i64 0,h,?_, .val [_] .int⟩;simp [Builtin.len_,ht,run_underlying hu,goInt]
  ·rename_i e es c es' off n hd;obtain⟨hu,hs⟩:=TD.fits_slice (hT.fits (t:=t) hd);rcases hp.ms_ with ⟨rfl,rfl,rfl⟩ | ⟨g,o,cap,hg,rfl,_⟩
   ·refine⟨_, .int .i64 0,h,?_, .val [_] .int⟩;simp [Builtin.len_,ht,run_underlying hu,goInt]
   ·refine⟨_, .int .i64 n,h,?_, .val [_] .int⟩;simp [Builtin.len_,ht,run_underlying hu,goInt]
  ·rename_i n e es hd;obtain⟨hu,hs⟩:=TD.fits_arr (hT.fits (t:=t) hd);refine⟨_, .int .i64 n,h,?_, .val [_] .int⟩;simp [Builtin.len_,ht,run_underlying hu,goInt]
  ·exact h.elim
end
end
section
section
variable {Pg:Program} {T:bf} {w w':World} {P P':bC} {adr adr':dV} {m:FM} {cnt:Nat} {K:MV×Dl→Prop} {u v x y:Value} {r:MV}
theorem jm (n:Nat) (z:MV):repM n z=b₂ n z:=by
 induction n with
 | zero=>rfl
 | succ n ih=>simp [repM,ih,d₄]
theorem vS {f:Nat} (ih: ∀t z,gl T f t=some z→∃cs:List SV,(∀acc,bU T f t acc=some (cs ++ acc))∧(∀w P,bF w P noAdr z (cs.map SV.den))∧z.isVal=true) :
  ∀(fs:List (Nat×TypeId)) (l:List MV),fs.foldr (fun x r=>match r,gl T f x.2 with | some r,some z=>some (z :: r) | _,_=>none) (some [])=some l→
   ∃css:List (List SV),css.length=l.length∧(∀acc,fs.foldr (fun x r=>match r with | some a=>bU T f x.2 a | none=>none) (some acc)=some (css.flatten ++ acc))∧
    ∀w P (j:Nat) m cs,l[j]? =some m→css[j]? =some cs→bF w P noAdr m (cs.map SV.den)
 | [],l,h=>by simp at h;subst h;exact⟨[],rfl,fun acc=>rfl,fun w P j m cs h=>by simp at h⟩
 | x :: fs,l,h=>by
  simp only [f₅] at h
  split at h
  ·rename_i r z hr hz
   injection h with h
   subst h
   obtain⟨css,h1,h2,h3⟩:=vS ih fs r hr
   obtain⟨cs,h4,h5,_⟩:=ih x.2 z hz
   refine⟨cs :: css,by simp [h1],fun acc=>?_,fun w P j m c hj hc=>?_⟩
   ·simp only [f₅,h2,h4,a₉,b₅]
   ·cases j with
    | zero=>simp at hj hc;subst hj;subst hc;exact h5 w P
    | succ j=>exact h3 w P j m c (by simpa using hj) (by simpa using hc)
  ·cases h
theorem oq (css:List (List SV)):css.flatten.map SV.den=(css.map (List.map SV.den)).flatten:=by
 induction css with
 | nil=>rfl
 | cons a l ih=>simp [ih]
theorem eo: ∀(f t:Nat) (z:MV),gl T f t=some z→∃cs:List SV,(∀acc,bU T f t acc=some (cs ++ acc))∧(∀w P,bF w P noAdr z (cs.map SV.den))∧z.isVal=true
 | 0,t,z,h=>by simp [gl] at h
 | f + 1,t,z,h=>by
  simp only [gl] at h
  have one: ∀(c:SV) (z':MV),z'=z→z'.isVal=true→(∀acc,bU T (f + 1) t acc=some (c :: acc))→(∀w P,bF w P noAdr z' [c.den])→∃cs:List SV,(∀acc,bU T (f + 1) t acc=some (cs ++ acc))∧(∀w P,bF w P noAdr z (cs.map SV.den))∧z.isVal=true:=by
   intro c z' e h0 h1 h2
   subst e
   exact⟨[c],h1,h2,h0⟩
  split at h
  ·rename_i k hd;injection h with h;exact one (.val (.int k 0)) _ h rfl (fun acc=>by simp [bU,hd]) (fun w P=> .int)
  ·rename_i hd;injection h with h;exact one (.val (.bool false)) _ h rfl (fun acc=>by simp [bU,hd]) (fun w P=> .bool)
  ·rename_i hd;injection h with h;exact one (.val (.string ⟨#[]⟩)) _ h rfl (fun acc=>by simp [bU,hd]) (fun w P=> .str)
  ·rename_i hd;injection h with h;exact one (.val (.pointer none)) _ h rfl (fun acc=>by simp [bU,hd]) (fun w P=> .nilp)
  ·rename_i hd;injection h with h;exact one (.val .nilIface) _ h rfl (fun acc=>by simp [bU,hd]) (fun w P=> .nili)
  ·rename_i hd;injection h with h;exact one (.val .nilFunc) _ h rfl (fun acc=>by simp [bU,hd]) (fun w P=> .nilf)
  ·rename_i e es hd;injection h with h;exact one (.val (.slice none 0 0)) _ h rfl (fun acc=>by simp [bU,hd]) (fun w P=> .nils)
  ·rename_i n e es hd
   split at h
   ·rename_i z0 hz0
    cases hb:(z0.idFree && a₀ z0.size es) with
    | false=>rw [hb] at h;cases h
    | true=>
     rw [hb] at h
     injection h with h
     subst h
     rw [a₁] at hb
     have hsz:=a₂ hb.2
     obtain⟨cs,h1,h2,_⟩:=eo f e z0 hz0
     refine⟨(b₂ n cs).flatten,fun acc=>?_,fun w P=>?_,rfl⟩
     ·have key: ∀k,(Nat.rec (some acc) (fun _ r=>match r with | some a=>bU T f e a | none=>none) k:Option (List SV))=some ((b₂ k cs).flatten ++ acc):=by
       intro k
       induction k with
       | zero=>rfl
       | succ k ih=>
        show(match (Nat.rec (some acc) (fun _ r=>match r with | some a=>bU T f e a | none=>none) k:Option (List SV)) with | some a=>bU T f e a | none=>none)=_
        rw [ih]
        show bU T f e _=_
        rw [h1,d₄,a₉,b₅]
      simp only [bU,hd]
      exact key n
     ·rw [oq,g₆,jm]
      refine .arr _ sm sm (fun p hp=>?_) fun j x p hx hp=>?_
      ·rw [(b₆.1 hp).2,(h2 w P).size,hsz]
      ·rw [(b₆.1 (a₈ hx)).2,(b₆.1 (a₈ hp)).2]
       exact h2 w P
   ·cases h
  ·rename_i fs sz hd
   split at h
   ·rename_i l hl
    injection h with h
    subst h
    obtain⟨css,h1,h2,h3⟩:=vS (fun t z h=>eo f t z h) fs l hl
    refine⟨css.flatten,fun acc=>by simp only [bU,hd];exact h2 acc,fun w P=>?_,rfl⟩
    rw [oq]
    refine .st _ (by simp [h1]) fun j x p hx hp=>?_
    rw [b₀,c₇] at hp
    obtain⟨c,hc,rfl⟩:=hp
    exact h3 w P j x c hx hc
   ·cases h
  ·cases h
end
end
section
section
variable {Pg:Program} {T:bf} {w w':World} {P P':bC} {adr adr':dV} {m:FM} {cnt:Nat} {K:MV×Dl→Prop} {u v x y:Value} {r:MV}
def sD (w:World) (P:bC) (adr:dV):List (Nat×MV)→List (Nat×Value)→Prop
 | [],[] =>True
 | (i,a) :: l,(j,b) :: s=>i=j∧aI w P adr a b∧sD w P adr l s
 | _,_=>False
theorem aI.ofVal (h:aI w P adr r u) (hv:r.isVal=true): ∃cs,bF w P adr r cs∧u=valM r cs:=by
 cases h with
 | val cs h=>exact ⟨cs,h,rfl⟩
 | undef=>cases hv
 | tup=>cases hv
theorem qO {cs:List Value} (h:bF w P adr r cs):iQ (valM r cs)=cs:=by rw [← pM,kh h]
theorem Dh {α:Type}: ∀{l:List α} {n:Nat} (v:α),n < l.length→vk l n v=some (l.set n v)
 | [],_,_,h=>by simp at h
 | _ :: _,0,_,_=>rfl
 | x :: l,n + 1,v,h=>by
  simp only [vk,Dh v (show n < l.length by simpa using h)]
  rfl
theorem kv {md:Bool}: ∀(ps:List (Nat×MV)) (pv:List (Nat×Value)) (l:List MV) (segs:List (List Value)) (l':List MV),sD w P adr ps pv→eI l ps=some l'→(∀p∈ps,p.2.isVal=true∧(md=true→p.2.idFree=true))→segs.length=l.length→
  (∀(j:Nat) m p,l[j]? =some m→segs[j]? =some p→bF w P (if md then noAdr else adr) m p)→
  ∃segs',ji segs pv=some segs'∧segs'.length=l'.length∧l'.length=l.length∧(∀(j:Nat) m p,l'[j]? =some m→segs'[j]? =some p→bF w P (if md then noAdr else adr) m p)∧segs'.map a₇=segs.map a₇∧oc (segs.map a₇) pv
 | [],[],l,segs,l',_,h,_,hl,hr=>by
  simp [eI] at h;subst h
  exact⟨segs,rfl,hl,rfl,hr,rfl,trivial⟩
 | (i,a) :: ps,(j,b) :: pv,l,segs,l',hp,h,hv,hl,hr=>by
  obtain⟨rfl,hab,hp⟩:=hp
  simp only [eI] at h
  split at h
  ·rename_i m hm
   rw [bD] at hm
   cases hb:(a₀ a.size m.size && Kh a.isAgg m.isAgg) with
   | false=>rw [hb] at h;cases h
   | true=>
    rw [hb] at h
    rw [a₁] at hb
    have hsz:=a₂ hb.1
    obtain⟨cs,hcs,rfl⟩:=hab.ofVal (hv (i,a) sm).1
    obtain⟨q,hq⟩:=bX hl hm
    have hql:=(hr i m q hm hq).size
    have hlt:=(a₃.1 hq).1
    have hcs':bF w P (if md then noAdr else adr) a cs:=by
     cases md with
     | false=>exact hcs
     | true=>exact hcs.free ((hv (i,a) sm).2 rfl)
    have hlen:(segs.set i cs).map a₇=segs.map a₇:=by
     apply c₉
     intro k
     simp only [b₀,d₇]
     split
     ·rename_i e
      subst e
      rw [hq]
      simp [hcs.size,hsz,hql]
     ·rfl
    obtain⟨segs',h1,h2,h3,h4,h5,h6⟩:=kv (md:=md) ps pv (setL l i a) (segs.set i cs) l' hp h (fun p hp=>hv p (by simp [hp])) (by rw [setL_eq];simpa using hl) (fun k y z hy hz=>by
     rw [setL_eq] at hy
     rcases bK hy with ⟨rfl,rfl⟩ | ⟨hne,hy⟩
     ·rcases bK hz with ⟨_,rfl⟩ | ⟨hne,_⟩
      ·exact hcs'
      ·exact absurd rfl hne
     ·rcases bK hz with ⟨rfl,_⟩ | ⟨_,hz⟩
      ·exact absurd rfl hne
      ·exact hr k y z hy hz)
    refine⟨segs',?_,h2,by rw [h3,setL_eq];simp,h4,by rw [h5,hlen],?_⟩
    ·simp only [ji,qO hcs,Dh cs hlt]
     exact h1
    ·refine⟨?_,by rw [hlen] at h6;exact h6⟩
     rw [se,qO hcs,b₀,hq]
     simp [hcs.size,hsz,hql]
  ·cases h
 | [],_ :: _,_,_,_,hp,_,_,_,_=>hp.elim
 | _ :: _,[],_,_,_,hp,_,_,_,_=>hp.elim
theorem qP {α:Type}: ∀{a b:List (List α)},a.map a₇=b.map a₇→a.flatten=b.flatten→a=b
 | [],[],_,_=>rfl
 | x :: a,y :: b,h,hf=>by
  simp only [d₉,List.cons.injEq] at h
  simp only [a₉] at hf
  obtain⟨h1,h2⟩:=h₃ hf h.1
  rw [h1,qP h.2 h2]
 | [],_ :: _,h,_=>by simp at h
 | _ :: _,[],h,_=>by simp at h
theorem pQ: ∀{l:List MV} {ns:List Nat},lu l ns=true→l.map MV.size=ns
 | [],[],_=>rfl
 | m :: l,n :: ns,h=>by
  have h:(a₀ m.size n && lu l ns)=true:=h
  rw [a₁] at h
  rw [d₉,a₂ h.1,pQ h.2]
 | [],_ :: _,h=>by cases h
 | _ :: _,[],h=>by cases h
theorem Di {l:List MV} {parts:List (List Value)} {a:dV} (hp:parts.length=l.length) (hr: ∀(j:Nat) m p,l[j]? =some m→parts[j]? =some p→bF w P a m p):parts.map a₇=l.map MV.size:=by
 apply c₉;intro j;simp only [b₀];cases hj:l[j]? with
 | none=>rw [e₂ (by rw [hp];exact List.getElem?_eq_none_iff.1 hj)];rfl
 | some m=>
  obtain⟨q,hq⟩:=bX hp hj;rw [hq];simp [(hr j m q hj hq).size]
theorem sum_flatten {α:Type} (l:List (List α)):l.flatten.length=(l.map a₇).sum:=by
 induction l with
 | nil=>rfl
 | cons a l ih=>simp
theorem ES (hT:bL Pg T) {t:TypeId} {ps:List (Nat×MV)} {pv:List (Nat×Value)} (h:(nF T t ps).runP K) (hp:sD w P adr ps pv) :
  ∃r y,K (r, .none)∧(Instr.build t pv.toArray).run Pg w= .ok y w∧aI w P adr r y:=by
 have core: ∀(l l':List MV) (ns:List Nat) (z:List SV) (parts:List (List Value)) (md:Bool),bU T 9 t [] =some z→xa T t=some ns→lu l ns=true→z.map SV.den=parts.flatten→parts.length=l.length→
   (∀(j:Nat) m p,l[j]? =some m→parts[j]? =some p→bF w P (if md then noAdr else adr) m p)→(∀p∈ps,p.2.isVal=true∧(md=true→p.2.idFree=true))→eI l ps=some l'→
   ∃segs':List (List Value),(Instr.build t pv.toArray).run Pg w= .ok (.agg ⟨segs'.flatten⟩) w∧segs'.length=l'.length∧l'.length=l.length∧(∀(j:Nat) m p,l'[j]? =some m→segs'[j]? =some p→bF w P (if md then noAdr else adr) m p)∧segs'.map a₇=ns:=by
  intro l l' ns z parts md hz hns hsz hzp hpl hr hv hset
  have hlens:=(Di hpl hr).trans (pQ hsz)
  obtain⟨segs',h1,h2,h3,h4,h5,h6⟩:=kv ps pv l parts l' hp hset hv hpl hr
  have hcut:k9 ns (z.map SV.den)=parts:=by
   obtain⟨c1,c2⟩:=nA ns (z.map SV.den) (by rw [hzp,sum_flatten,hlens])
   exact qP (by rw [c2,hlens]) (by rw [c1,hzp])
  have hb:xd (M:= []) (H:= []) T t pv (fun sv _ _=>sv= .val (.agg (vn segs').toArray)):=by
   unfold xd
   rw [hz,hns]
   have hl:a₀ z.length ns.sum=true:=by
    have:z.length=ns.sum:=by rw [← c₀ (f:=SV.den),hzp,sum_flatten,hlens]
    rw [this];exact Nat.beq_refl _
   show(match a₀ z.length ns.sum,ji (k9 ns (z.map SV.den)) pv with | true,some segs=>_ | _,_=>False)
   rw [hl,hcut,h1]
   exact⟨by rw [← hlens];exact h6,rfl⟩
  obtain⟨sv,hrun,rfl⟩:=Bv (P:=Pg) hT hb
  refine⟨segs',?_,h2,h3,h4,h5.trans hlens⟩
  have:=hrun w ⟨fun i kb h=>by simp [GV.find] at h,fun i j ki kj h=>by simp [GV.find] at h,fun p hp=>by simp at hp,fun p hp=>by simp at hp⟩
  rw [this,den_val,Dd]
 unfold nF at h
 split at h
 ·rename_i l ns hz hns
  obtain⟨cs,h1,h2,_⟩:=eo 9 t _ hz
  have hz':=h1 []
  rw [d₅] at hz'
  have hrep:=h2 w P
  cases hb:(lu l ns && ps.all (fun p=>p.2.isVal)) with
  | false=>rw [hb] at h;exact h.elim
  | true=>
   rw [hb] at h
   rw [a₁,b₇] at hb
   simp only [cond_true] at h
   split at h
   ·rename_i l' hl'
    generalize hcs:cs.map SV.den=vs at hrep
    cases hrep with
    | st parts hp hr=>
     obtain⟨segs',a1,a2,a3,a4,a5⟩:=core l l' ns cs parts false hz' hns hb.1 hcs hp (fun j m p h1 h2=>(hr j m p h1 h2).ofNone) (fun p hp=>⟨hb.2 p hp,fun h=>nomatch h⟩) hl'
     exact⟨_,_,h,a1, .val (m:= .st l') _ (.st segs' a2 a4)⟩
   ·exact h.elim
 ·rename_i n es l ns hz hns
  obtain⟨cs,h1,h2,_⟩:=eo 9 t _ hz
  have hz':=h1 []
  rw [d₅] at hz'
  have hrep:=h2 w P
  cases hb:(lu l ns && ps.all (fun p=>p.2.isVal && p.2.idFree)) with
  | false=>rw [hb] at h;exact h.elim
  | true=>
   rw [hb] at h
   rw [a₁,b₇] at hb
   simp only [cond_true] at h
   split at h
   ·rename_i l' hl'
    generalize hcs:cs.map SV.den=vs at hrep
    cases hrep with
    | arr parts hln hp hes hr=>
     obtain⟨segs',a1,a2,a3,a4,a5⟩:=core l l' ns cs parts true hz' hns hb.1 hcs (hp.trans hln.symm) hr (fun p hp=>by have:=hb.2 p hp;rw [a₁] at this;exact⟨this.1,fun _=>this.2⟩) hl'
     refine⟨_,_,h,a1, .val (m:= .arr n es l') _ (.arr segs' (a3.trans hln) (by rw [a2,a3,hln]) (fun q hq=>?_) a4)⟩
     have h7:segs'.map a₇=parts.map a₇:=a5.trans ((Di (hp.trans hln.symm) hr).trans (pQ hb.1)).symm
     obtain⟨k,hk,rfl⟩:=e₃.1 hq
     have h8:(segs'.map a₇)[k]? =some (segs'[k].length):=by rw [b₀,a₄ hk];rfl
     rw [h7,b₀] at h8
     have hk2:k < parts.length:=by
      rw [show parts.length=(parts.map a₇).length by simp,← h7];simpa using hk
     rw [a₄ hk2] at h8
     simp at h8
     rw [← h8,hes _ (h₁ hk2)]
   ·exact h.elim
 ·exact h.elim
end
end
section
section
variable {Pg:Program} {T:bf} {w w':World} {P P':bC} {adr adr':dV} {m:FM} {cnt:Nat} {K:MV×Dl→Prop} {u v x y:Value} {r:MV}
theorem bl.weak {ex ex':Fp} {h w:World} (k:bl ex h w) (hx: ∀b,ex b→ex' b):bl ex' h w:=⟨k.os,k.tape,k.output,k.size,fun b hb he=>k.block b hb fun e=>he (hx b e)⟩
theorem bu.new (hI:aQ w P adr m) (hn:adr cnt=none) (hm:m cnt=none) (hb:Below w.heap.size w w') {b:MB} {cur:Array Value} {parts:List (List Value)} (hg:w'.heap[w.heap.size]? =some (.cells cur b.ty (0,0))) (hpl:parts.length=b.l.length) (hpe: ∀p∈parts,p.length=b.es)
  (hr: ∀(j:Nat) x p,b.l[j]? =some x→parts[j]? =some p→bF w P (if b.row then noAdr else adr) x p) (hcur:parts.flatten <+:cur.toList) (hle:b.pe≤b.l.length) (hu:aI w' P (aN adr cnt w.heap.size) r u):bu w P adr m cnt r (.new b) u w':=by
 obtain⟨h1,h2⟩:=hI.new hn hm hb hg hpl hpe hr hcur hle
 refine⟨P,_,hu,h1,h2,fun c hc=>aK _ _ hc,fun g hg=>?_,(bl.of_below hb).weak fun _ e=>e.elim,fun _ _ h=> .inl h⟩
 rw [aF] at hg
 injection hg with hg
 exact .inl (Nat.le_of_eq hg)
theorem Ha (hT:bL Pg T) (hI:aQ w P adr m) (hn:adr cnt=none) (hm:m cnt=none) {t:TypeId} {d:TD} {z:MV} (hz:gl T 9 t=some z) (hf:dX d z=true) :
  ∃y w',(Instr.alloc t true (.tuple #[])).run Pg w= .ok y w'∧bu w P adr m cnt (.ptr cnt d.size 0 0 []) (.new ⟨t,d.size,false,0,[z]⟩) y w':=by
 obtain⟨cs,h1,h2,_⟩:=eo 9 t _ hz
 have hz':=h1 []
 rw [d₅] at hz'
 obtain⟨v,hv,hc⟩:=hT.zero hz' w
 have hcells:v.cells=(cs.map SV.den).toArray:=by rw [← hc]
 have hrep:=h2 w P
 refine⟨.pointer (some ⟨w.heap.size,0,none⟩),w.alloc (.cells (cs.map SV.den).toArray t),by simp [Instr.alloc,hv,newVar,newRow,hcells],?_⟩
 refine bu.new hI hn hm (Below.alloc1 w _) (cur:=(cs.map SV.den).toArray) (parts:= [cs.map SV.den]) (heap_alloc_new w _) rfl (fun p hp=>?_) (fun j x p hx hp=>?_) ⟨[],sm⟩ (e₇ _) (.val [_] ?_)
 ·simp at hp;subst hp;rw [hrep.size,(gV hf).1]
 ·cases j with
  | zero=>simp at hx hp;subst hx;subst hp;exact hrep.ofNone
  | succ j=>simp at hx
 ·have:=bF.ptr (w:=w.alloc (.cells (cs.map SV.den).toArray t)) (P:=P) (adr:=aN adr cnt w.heap.size) (c:=cnt) (es:=d.size) (k:=0) (fo:=0) (path:= []) _ (aF _ _ _)
  simpa using this
theorem My (hI:aQ w P adr m) (hn:adr cnt=none) (hm:m cnt=none) {t:TypeId} {d:TD} {z:MV} (hf:dX d z=true) (hz:aI w P adr z v) :
  ∃y w',(Instr.box t v).run Pg w= .ok y w'∧bu w P adr m cnt (.ptr cnt d.size 0 0 []) (.new ⟨t,d.size,false,0,[z]⟩) y w':=by
 obtain⟨cs,hrep,rfl,hl⟩:=lB hz hf
 have hcells:(valM z cs).cells=cs.toArray:=Array.toList_inj.1 (kh hrep)
 refine⟨.pointer (some ⟨w.heap.size,0,none⟩),w.alloc (.cells cs.toArray t),by simp [Instr.box,newVar,newRow,hcells],?_⟩
 refine bu.new hI hn hm (Below.alloc1 w _) (cur:=cs.toArray) (parts:= [cs]) (heap_alloc_new w _) rfl (fun p hp=>?_) (fun j x p hx hp=>?_) ⟨[],sm⟩ (e₇ _) (.val [_] ?_)
 ·simp at hp;subst hp;exact hl
 ·cases j with
  | zero=>simp at hx hp;subst hx;subst hp;exact hrep
  | succ j=>simp at hx
 ·have:=bF.ptr (w:=w.alloc (.cells cs.toArray t)) (P:=P) (adr:=aN adr cnt w.heap.size) (c:=cnt) (es:=d.size) (k:=0) (fo:=0) (path:= []) _ (aF _ _ _)
  simpa using this
theorem nH (w:World) (c:Array Value) (t:TypeId) (P:bC) {n es:Nat} (hsz:c.size=n * es) (hn:n≤maxLen):aI (w.alloc (.cells c t)) P (aN adr cnt w.heap.size) (.ms cnt es 0 n) (.slice (some ⟨w.heap.size,0,none⟩) n n):=
 .val [_] (.ms w.heap.size 0 n (aF _ _ _) (fun _=>by simp) (f₆ _) hn ⟨c,t,heap_alloc_new w _,fun _=>hsz⟩)
theorem lC (hT:bL Pg T) (hI:aQ w P adr m) (hn:adr cnt=none) (hm:m cnt=none) {t:TypeId} {n:Nat} {ps:List (Nat×MV)} {pv:List (Nat×Value)} (h:(di T cnt t n ps).runP K) (hp:sD w P adr ps pv) :
  ∃r δ y w',K (r,δ)∧(Instr.buildSlice t n pv.toArray).run Pg w= .ok y w'∧bu w P adr m cnt r δ y w':=by
 unfold di at h
 split at h
 ·rename_i e es hd
  obtain⟨hu,hs⟩:=TD.fits_slice (hT.fits hd)
  split at h
  ·split at h
   ·have hpv:pv= [] :=by
     cases pv with
     | nil=>rfl
     | cons a l=>exact hp.elim
    subst hpv
    refine⟨_,_, .slice (some ⟨w.heap.size,0,none⟩) 0 0,w.alloc (.cells #[] e),h,?_,?_⟩
    ·simp only [Instr.buildSlice,Sem.run_bind,run_underlying hu,Result.andThen_ok,bj hs,newRow]
     simp [Instr.fill]
     rw [show Array.map (fun _:Nat=>(default:Value)) (Array.range 0)= #[] from Array.eq_empty_of_size_eq_zero sm]
    ·exact bu.new hI hn hm (Below.alloc1 w _) (cur:= #[]) (parts:= []) (heap_alloc_new w _) rfl (fun p hp=>by simp at hp) (fun j x p hx hp=>by simp at hp) ⟨[],rfl⟩ (e₇ _) (nH w _ _ _ sm (by decide))
   ·exact h.elim
  ·rename_i n
   split at h
   ·rename_i z hz
    cases hb:(a₀ z.size es && e₁ 0 es && d₁ ((n + 1) * es) 16777216 && z.idFree && ps.all (fun p=>p.2.isVal)) with
    | false=>rw [hb] at h;exact h.elim
    | true=>
     rw [hb] at h
     simp only [a₁,b₇] at hb
     obtain⟨⟨⟨⟨hsz,hes⟩,hle⟩,hzf⟩,hv⟩:=hb
     have hsz:=a₂ hsz
     have hes:0 < es:=by simpa [h₂] using hes
     have hle:=c₆ hle
     simp only [cond_true] at h
     split at h
     ·rename_i l' hl'
      obtain⟨cs,h1,h2,_⟩:=eo 9 e _ hz
      have hz':=h1 []
      rw [d₅] at hz'
      obtain⟨zv,hzv,hzc⟩:=hT.zero hz' w
      have hzcells:zv.cells=(cs.map SV.den).toArray:=by rw [← hzc]
      have hrep:=h2 w P
      have hcl:cs.length=es:=by rw [← c₀ (f:=SV.den),hrep.size,hsz]
      have hl0:(repM (n + 1) z).length=n + 1:=by rw [jm];simp
      obtain⟨segs',a1,a2,a3,a4,a5,a6⟩:=kv (md:=ps.all (fun p=>p.2.idFree)) ps pv (repM (n + 1) z) (b₂ (n + 1) (cs.map SV.den)) l' hp hl' (fun p hp=>⟨hv p hp,fun h=>b₇.1 h p hp⟩) (by rw [hl0];simp) (fun j x p hx hp=>by
       rw [jm] at hx
       rw [(b₆.1 (a₈ hx)).2,(b₆.1 (a₈ hp)).2]
       split
       ·exact hrep
       ·exact hrep.ofNone)
      have hlens:(b₂ (n + 1) (cs.map SV.den)).map a₇=b₂ (n + 1) es:=by rw [g₆,c₀,hcl]
      have hpl: ∀i k,(b₂ (n + 1) es)[i]? =some k→(fun i=>some (i * es,es):Nat→Option (Nat×Nat)) i=some (((b₂ (n + 1) es).take i).sum,k):=by
       intro i k hk
       rw [f₄] at hk
       split at hk
       ·injection hk with hk
        subst hk
        rw [g₀,f₇,b₉ om]
       ·cases hk
      have hfill:=pN hpl pv _ segs' hlens a1 (by rw [hlens] at a6;exact a6)
      have hall: ∀p∈segs',p.length=es:=by
       intro p hp
       have:p.length∈segs'.map a₇:=f₃.2 ⟨p,hp,rfl⟩
       rw [a5,hlens] at this
       exact(b₆.1 this).2
      have hsegl:segs'.length=n + 1:=by rw [a2,a3,hl0]
      have hcs0:=nB (n:=n + 1) (z:=cs) (zc:=zv.cells) hzcells hcl hes
      have hrepS:(og (n + 1) cs).map SV.den=(b₂ (n + 1) (cs.map SV.den)).flatten:=by
       have: ∀k,(og k cs).map SV.den=(b₂ k (cs.map SV.den)).flatten:=by
        intro k
        induction k with
        | zero=>rfl
        | succ k ih=>rw [og,h₄,ih,d₄,a₉]
       exact this _
      refine⟨_,_, .slice (some ⟨w.heap.size,0,none⟩) (n + 1) (n + 1),w.alloc (.cells segs'.flatten.toArray e),h,?_,?_⟩
      ·have hne: ¬ ((n + 1) * es=0):=by have:=Nat.mul_pos (show 0 < n + 1 by omega) hes;omega
       have hng: ¬ ((n + 1) * es > 2 ^ 24):=om
       simp only [Instr.buildSlice,Sem.run_bind,run_underlying hu,Result.andThen_ok,bj hs,if_neg hne,if_neg hng,hzv,Sem.run_pure,hcs0,hrepS,hfill,newRow]
       simp
      ·refine bu.new hI hn hm (Below.alloc1 w _) (cur:=segs'.flatten.toArray) (parts:=segs') (heap_alloc_new w _) a2 hall a4 ⟨[],sm⟩ (e₇ _) (nH w _ _ _ ?_ ?_)
       ·rw [d₀,aM hall,hsegl]
       ·have:n + 1≤(n + 1) * es:=Nat.le_mul_of_pos_right _ hes
        unfold maxLen
        omega
     ·exact h.elim
   ·exact h.elim
 ·exact h.elim
theorem vv (hT:bL Pg T) (hI:aQ w P adr m) (hn:adr cnt=none) (hm:m cnt=none) {t:TypeId} {p q:MV} (h:(fG Pg T cnt t p q).runP K) (hp:aI w P adr p u) (hq:aI w P adr q v) :
  ∃r δ y w',K (r,δ)∧(Instr.makeSlice t u v).run Pg w= .ok y w'∧bu w P adr m cnt r δ y w':=by
 unfold fG at h
 split at h
 ·rename_i e es k0 n k1 n' hd
  split at h
  ·rename_i z hz
   cases hb:(a₀ z.size es && e₁ 0 es && z.idFree) with
   | false=>rw [hb] at h;exact h.elim
   | true=>
    rw [hb] at h
    simp only [a₁] at hb
    obtain⟨⟨hsz,hes⟩,hzf⟩:=hb
    have hsz:=a₂ hsz
    obtain⟨rfl,k,hk,by_,hby,hbb,h⟩:=h
    obtain⟨hk1,hk2⟩:=oo hk
    subst hk1
    rw [hp.int_,hq.int_]
    obtain⟨cs,h1,h2,_⟩:=eo 9 e _ hz
    have hz':=h1 []
    rw [d₅] at hz'
    have hrep:=h2 w P
    have hcl:cs.length=es:=by rw [← c₀ (f:=SV.den),hrep.size,hsz]
    obtain⟨zv,hzv,hzc⟩:=hT.zero hz' w
    have hzcells:zv.cells=(cs.map SV.den).toArray:=by rw [← hzc]
    have hes:0 < es:=by simpa [h₂] using hes
    obtain⟨hu,hs⟩:=TD.fits_slice (hT.fits hd)
    cases hi:Pg.info? e with
    | none=>simp [hi] at hby
    | some it=>
     have hby':it.bytes=by_:=by simpa [hi] using hby
     have hszi:it.size=es:=by simpa [fa,hi] using hs
     have hit:it.zero=some zv:=by
      cases hv:it.zero with
      | none=>simp [zeroValue,typeInfo,hi,hv,unsupported] at hzv
      | some v=>simp [zeroValue,typeInfo,hi,hv] at hzv;rw [hzv]
     have hbytes:(it.bytes:Int) * (k:Int)≤281474976710656:=by
      rw [hby',← Int.natCast_mul,Nat.mul_comm];omega
     have hr:=run_make (P:=Pg) w t e it zv hu hi hit k0 k1 (k:Int) (k:Int) om (Int.le_refl _) hbytes om
     have hrs:=nB (n:=k) hzcells hcl hes
     have hrepS: ∀k,(og k cs).map SV.den=(b₂ k (cs.map SV.den)).flatten:=by
      intro k
      induction k with
      | zero=>rfl
      | succ k ih=>rw [og,h₄,ih,d₄,a₉]
     have hall: ∀p∈b₂ k (cs.map SV.den),p.length=es:=fun p hp=>by rw [(b₆.1 hp).2,c₀,hcl]
     refine⟨_,_, .slice (some ⟨w.heap.size,0,none⟩) k k,w.alloc (.cells (b₂ k (cs.map SV.den)).flatten.toArray e),h,?_,?_⟩
     ·rw [hr]
      simp only [madeCells,c₈,hszi,hzcells] at hrs ⊢
      rw [hrs,hrepS]
     ·refine bu.new hI hn hm (Below.alloc1 w _) (cur:=(b₂ k (cs.map SV.den)).flatten.toArray) (parts:=b₂ k (cs.map SV.den)) (heap_alloc_new w _) (by show _=(repM k z).length;rw [jm];simp) hall (fun j x p hx hp=>?_) ⟨[],sm⟩ (e₇ _) (nH w _ _ _ ?_ ?_)
      ·have hx:(repM k z)[j]? =some x:=hx
       rw [jm] at hx
       rw [(b₆.1 (a₈ hx)).2,(b₆.1 (a₈ hp)).2]
       exact hrep
      ·rw [d₀,aM hall,List.length_replicate]
      ·unfold maxLen;omega
  ·exact h.elim
 ·exact h.elim
end
end
section
section
variable {Pg:Program} {T:bf} {w w':World} {P P':bC} {adr adr':dV} {m:FM} {cnt:Nat} {K:MV×Dl→Prop} {u v x y:Value} {r:MV}
theorem kx: ∀{l:List MV} {s:List UInt8} {parts:List (List Value)} {a:dV},kn l=some s→parts.length=l.length→(∀(j:Nat) m p,l[j]? =some m→parts[j]? =some p→bF w P a m p)→s.length=l.length∧parts=s.map fun b=> [Value.int .u8 (b.toNat:Int)]
 | [],s,parts,a,h,hp,_=>by
  simp [kn] at h;subst h
  exact⟨rfl,b₁ (by simpa using hp)⟩
 | m :: l,s,[],a,h,hp,_=>by simp at hp
 | m :: l,s,p :: parts,a,h,hp,hr=>by
  unfold kn at h
  split at h
  ·rename_i h0;cases h0
  ·rename_i n l' he
   injection he with e1 e2
   subst e1;subst e2
   split at h
   ·rename_i hn
    split at h
    ·rename_i r hr'
     injection h with h
     subst h
     obtain⟨h1,h2⟩:=kx hr' (by simpa using hp) fun j m p h1 h2=>hr (j + 1) m p h1 h2
     have h3:=hr 0 _ p rfl rfl
     refine⟨by simp [h1],?_⟩
     rw [h2,d₉]
     congr 1
     cases h3
     have:(UInt8.ofNat n.toNat).toNat=n.toNat:=by rw [UInt8.toNat_ofNat',g₉ om]
     rw [this]
     congr 2
     omega
    ·cases h
   ·cases h
  ·cases h
theorem flat_bytes (s:List UInt8):(s.map fun b=> [Value.int .u8 (b.toNat:Int)]).flatten=s.map fun b=>Value.int .u8 (b.toNat:Int):=by
 induction s with
 | nil=>rfl
 | cons b s ih=>simp [ih]
theorem Hb (hT:bL Pg T) (hI:aQ w P adr m) (hn:adr cnt=none) {src dst:TypeId} {p:MV} (h:(lz T m src dst p).runP K) (hp:aI w P adr p u) :
  ∃r y w',K (r, .none)∧(convert src dst u).run Pg w= .ok y w'∧bu w P adr m cnt r .none y w':=by
 unfold lz at h
 split at h
 ·rename_i d0 k k' n hd0 hd
  obtain⟨r,hr,h⟩:=h
  injection hr with hr
  subst hr
  obtain⟨ds,hds⟩:=TD.fits_some (hT.fits hd0)
  rw [hp.int_]
  refine⟨_, .int k (k.wrap n),w,h,?_,bu.pure hI hn (.val [_] .int)⟩
  simp [convert,run_underlying hds,run_underlying (TD.fits_int (hT.fits hd)),Conv.intToInt]
 ·rename_i e es n l hd0 hd
  split at h
  ·rename_i hde
   obtain⟨s,hs,h⟩:=h
   have hu:=(TD.fits_slice (hT.fits hd0)).1
   have hu2:=TD.fits_str (hT.fits hd)
   have hu3:=TD.fits_int (hT.fits hde)
   obtain⟨A,cap,es',parts,rfl,h1,h2,h3,h4,h5,h6,h7⟩:=hp.sl_
   obtain⟨h8,h9⟩:=kx hs (h2.trans h1.symm) h7
   refine⟨_, .string ⟨s.toArray⟩,w,h,?_,bu.pure hI hn (.val [_] .str)⟩
   cases A with
   | none=>
    obtain⟨rfl,rfl⟩:=h4 rfl
    have:s= [] :=b₁ om
    subst this
    simp [convert,run_underlying hu,run_underlying hu2,run_underlying hu3,Conv.bytesToString]
    rfl
   | some a=>
    have hsn:s.length=n:=om
    subst hsn
    refine run_convert_bytes_back w src dst e a cap s hu hu3 hu2 fun j hj=>?_
    obtain⟨b,o,hA,hc⟩:=h6 om
    injection hA with hA
    subst hA
    rw [Addr.add_mid]
    refine(hc j _ ?_).1
    rw [h9,flat_bytes,b₀,a₄ hj];rfl
  ·exact h.elim
 ·rename_i e es hd0 hd
  split at h
  ·rename_i hde
   have hu:=(TD.fits_slice (hT.fits hd0)).1
   have hu2:=TD.fits_str (hT.fits hd)
   have hu3:=TD.fits_int (hT.fits hde)
   rw [hp.nils_]
   refine⟨_, .string ⟨#[]⟩,w,h,?_,bu.pure hI hn (.val [_] .str)⟩
   simp [convert,run_underlying hu,run_underlying hu2,run_underlying hu3,Conv.bytesToString]
   rfl
  ·exact h.elim
 ·rename_i e es c es' off n hd0 hd
  split at h
  ·rename_i b hde hb
   cases he:(a₀ es' 1 && a₀ b.es 1) with
   | false=>rw [he] at h;exact h.elim
   | true=>
    rw [he] at h
    rw [a₁] at he
    have he1:=a₂ he.1
    have he2:=a₂ he.2
    subst he1
    obtain⟨hle,s,hs,h⟩:=h
    have hu:=(TD.fits_slice (hT.fits hd0)).1
    have hu2:=TD.fits_str (hT.fits hd)
    have hu3:=TD.fits_int (hT.fits hde)
    refine⟨_, .string ⟨s.toArray⟩,w,h,?_,bu.pure hI hn (.val [_] .str)⟩
    have hlen:(cutL b.l off (off + n)).length=n:=by unfold cutL;rw [a₅,c₁];omega
    rcases hp.ms_ with ⟨rfl,rfl,rfl⟩ | ⟨g,o,cap,hg,rfl,ho,h5,h6,h7⟩
    ·have hc0:cutL b.l 0 (0 + 0)= [] :=b₁ (by rw [hlen])
     rw [hc0] at hs
     simp [kn] at hs
     subst hs
     simp [convert,run_underlying hu,run_underlying hu2,run_underlying hu3,Conv.bytesToString]
     rfl
    ·rcases hI.blk c b hb with h1 | ⟨g',h1,h2⟩
     ·rw [hg] at h1;cases h1.2.2.1
     ·rw [hg] at h1
      injection h1 with h1
      subst h1
      obtain⟨cur,parts,h3,h4,h8,h9,h10⟩:=h2.ofE om
      have hpl:((parts.drop off).take n).length=(cutL b.l off (off + n)).length:=by rw [hlen,a₅,c₁];omega
      obtain⟨h11,h12⟩:=kx (a:=if b.row then noAdr else adr) hs hpl fun j x p hx hp=>by
       obtain⟨hx,hj⟩:=iS hx
       rw [c₃] at hp
       split at hp
       ·rw [c₄] at hp;exact h9 _ x p hx hp
       ·cases hp
      have hsn:s.length=n:=om
      subst hsn
      refine run_convert_bytes_back w src dst e ⟨g,o,none⟩ cap s hu hu3 hu2 fun j hj=>?_
      have ho:=ho (.inl om)
      subst ho
      rw [Addr.add_mid,cell_of_row w g _ cur b.ty (0,0) h3]
      have hfl:parts.flatten[off * 1 + j]? =some (.int .u8 (s[j].toNat:Int)):=by
       refine cK (es:=1) (fun p hp=>by rw [h8 p hp,he2]) off s.length ?_ om
       rw [h12,flat_bytes,b₀,a₄ hj];rfl
      have:=cI h10 hfl
      simpa using this
  ·exact h.elim
 ·rename_i e es s hd0 hd
  split at h
  ·rename_i hde
   obtain⟨hle,l,hl,n,hnn,h⟩:=h
   injection hl with hl
   injection hnn with hnn
   subst hl;subst hnn
   have hu:=(TD.fits_slice (hT.fits hd)).1
   have hu2:=TD.fits_str (hT.fits hd0)
   have hu3:=TD.fits_int (hT.fits hde)
   rw [hp.str_]
   have hsz:(⟨s.toArray⟩:ByteArray).size=s.length:=by simp [ByteArray.size]
   have hrun:=run_bytes_of_string (P:=Pg) w src dst e ⟨s.toArray⟩ hu2 hu hu3
   rw [hsz] at hrun
   have hge:=grownCap_ge w s.length 0 e
   generalize grownCap w s.length 0 e=cap at *
   have hb:Below w.heap.size w (w.drew.alloc (.cells (bytesRow ⟨s.toArray⟩ cap) e ((bytesRow ⟨s.toArray⟩ cap).size,(bytesRow ⟨s.toArray⟩ cap).size + 1))):=by
    have:=Below.alloc1 w.drew (.cells (bytesRow ⟨s.toArray⟩ cap) e ((bytesRow ⟨s.toArray⟩ cap).size,(bytesRow ⟨s.toArray⟩ cap).size + 1))
    exact⟨this.os,this.tape,this.output,this.size,this.block⟩
   have hnew:(w.drew.alloc (.cells (bytesRow ⟨s.toArray⟩ cap) e ((bytesRow ⟨s.toArray⟩ cap).size,(bytesRow ⟨s.toArray⟩ cap).size + 1))).heap[w.heap.size]? =some (.cells (bytesRow ⟨s.toArray⟩ cap) e ((bytesRow ⟨s.toArray⟩ cap).size,(bytesRow ⟨s.toArray⟩ cap).size + 1)):=heap_alloc_new w.drew _
   generalize w.drew.alloc (.cells (bytesRow ⟨s.toArray⟩ cap) e ((bytesRow ⟨s.toArray⟩ cap).size,(bytesRow ⟨s.toArray⟩ cap).size + 1))=w1 at *
   refine⟨_,_,w1,h,hrun,gM w w1 P,adr,?_,hI.below hb,bg.below hI.prot hb,fun _ _=>rfl,fun g hg=>(by rw [hn] at hg;cases hg),(bl.of_below hb).weak fun _ e=>e.elim,fun b o hp=>?_⟩
   ·have hlt:w.heap.size < w1.heap.size:=(Array.getElem?_eq_some_iff.1 hnew).1
    refine .val [_] (.sl (some ⟨w.heap.size,0,none⟩) cap 1 (s.map fun b=> [Value.int .u8 (b.toNat:Int)]) (by simp [u8s]) sm (fun p hp=>?_) (fun h=>nomatch h) hge (fun _=>⟨w.heap.size,0,rfl,fun j x hx=>⟨?_, .inr ⟨f₆ _,hlt⟩⟩⟩) fun j x p hx hp=>?_)
    ·obtain⟨b,_,rfl⟩:=f₃.1 hp;rfl
    ·rw [cell_of_row w1 w.heap.size _ _ e _ hnew,Nat.zero_add]
     rw [flat_bytes] at hx
     have hj:=(a₃.1 hx).1
     simp only [c₀] at hj
     rw [b₀,a₄ hj] at hx
     injection hx with hx
     unfold bytesRow
     rw [Array.getElem?_append_left (by simpa using hj)]
     simp [hj,hx]
    ·simp only [u8s,b₀,c₇] at hx hp
     obtain⟨b,hb,rfl⟩:=hx
     obtain⟨b',hb',rfl⟩:=hp
     rw [hb] at hb'
     injection hb' with hb'
     subst hb'
     exact .int
   ·rcases hp with hp | hp
    ·exact .inl hp
    ·exact .inr (.inl hp.1)
  ·exact h.elim
 ·exact h.elim
end
end
section
section
variable {Pg:Program} {T:bf} {w w':World} {P P':bC} {adr adr':dV} {m:FM} {cnt:Nat} {K:MV×Dl→Prop} {u v x y:Value} {r:MV}
theorem Kl {op:BinOp} {k:IntKind} {a b:Int} (h:((GY op k a b).bind pureA).runP K):xb op k a b fun v=> ∃r,K (r, .none)∧aI w P adr r v:=by
 cases op <;> simp only [GY,val,aX.bind,aX.ask,aX.prf,aX.ret,pureA,aX.runP] at h <;> simp only [xb]
 case quo=>obtain ⟨h0,r,hr,h⟩:=h;injection hr with hr;exact⟨h0,r,hr,_,h, .val [_] .int⟩
 case rem=>obtain ⟨h0,r,hr,h⟩:=h;injection hr with hr;exact⟨h0,r,hr,_,h, .val [_] .int⟩
 case shl=>obtain ⟨h0,r,hr,h⟩:=h;injection hr with hr;exact⟨h0,r,hr,_,h, .val [_] .int⟩
 case shr=>obtain ⟨h0,r,hr,h⟩:=h;injection hr with hr;exact⟨h0,r,hr,_,h, .val [_] .int⟩
 all_goals first
  | (obtain⟨r,hr,h⟩:=h;injection hr with hr;exact⟨r,hr,_,h, .val [_] .int⟩)
  | exact⟨_,h, .val [_] .bool⟩
theorem ba_list (s:List UInt8):(⟨s.toArray⟩:ByteArray).toList=s:=by rw [ByteArray.toList_eq]
theorem ba_size (s:List UInt8):(⟨s.toArray⟩:ByteArray).size=s.length:=by simp [ByteArray.size]
theorem Mz (s t:List UInt8):(⟨s.toArray⟩ ++ ⟨t.toArray⟩:ByteArray)=⟨(s ++ t).toArray⟩:=by
 apply ByteArray.ext;simp [ByteArray.data_append]
theorem Km {op:BinOp} {a b:List UInt8} (h:((Ki op a b).bind pureA).runP K):xc op ⟨a.toArray⟩ ⟨b.toArray⟩ fun v=> ∃r,K (r, .none)∧aI w P adr r v:=by
 cases op <;> simp only [Ki,val,aX.bind,aX.ask,aX.prf,aX.ret,aX.bad,pureA,aX.runP] at h <;> simp only [xc,ba_list,ba_size,Mz]
 case add=>obtain ⟨h0,r,hr,h⟩:=h;injection hr with hr;subst hr;exact⟨h0,_,h, .val [_] .str⟩
 all_goals first
  | exact⟨_,h, .val [_] .bool⟩
  | exact h.elim
theorem Kn {op:BinOp} {a b:Bool} (h:((GZ op a b).bind pureA).runP K):rM op a b fun v=> ∃r,K (r, .none)∧aI w P adr r v:=by
 cases op <;> simp only [GZ,aX.bind,aX.ret,aX.bad,pureA,aX.runP] at h <;> simp only [rM]
 all_goals first
  | exact⟨_,h, .val [_] .bool⟩
  | exact h.elim
mutual
theorem mK: ∀{f t:Nat} {m:MV} {cs:List Value} {adr:dV},dh T f t m=true→bF w P adr m cs→jk T f t cs
 | 0,_,_,_,_,h,_=>by simp [dh] at h
 | f + 1,t,m,cs,adr,h,hr=>by
  unfold dh at h
  unfold jk
  split at h
  ·rename_i k j n hd
   rw [hd]
   have:=Db h
   subst this
   cases hr
   exact⟨n,rfl⟩
  ·rename_i hd;rw [hd];cases hr;exact⟨_,rfl⟩
  ·rename_i hd;rw [hd];cases hr;exact⟨_,rfl⟩
  ·rename_i n e es n' es' l hd
   rw [hd]
   simp only [a₁] at h
   obtain⟨⟨h1,h2⟩,h3⟩:=h
   have h1:=a₂ h1
   have h2:=a₂ h2
   subst h1;subst h2
   cases hr with
   | arr parts hl hp hes hr=>
    refine⟨by rw [aM hes,hp],fun i hi=>?_⟩
    have hx:=a₄ (l:=l) (i:=i) om
    obtain⟨q,hq⟩:=bX (hp.trans hl.symm) hx
    have hql:=hes q (a₈ hq)
    have hpre:(parts.take i).flatten.length=i * es:=by
     rw [aM (es:=es) fun x hx=>hes x (b₄ hx),a₅,b₉ om]
    have:(parts.flatten.drop (i * es)).take es=q:=by
     rw [bJ hq,b₅,← hpre,e₆,← hql,e₅]
    rw [this]
    exact mK (b₇.1 h3 _ (h₁ om)) (hr i _ q hx hq)
  ·rename_i fs sz l hd
   rw [hd]
   cases hr with
   | st parts hp hr=>
    have:=sE h hp hr [] rfl
    rw [List.nil_append] at this
    exact this
  ·cases h
theorem sE: ∀{f:Nat} {fs:List (Nat×TypeId)} {o:Nat} {l:List MV} {sz:Nat} {parts:List (List Value)} {adr:dV},iq T f fs o l sz=true→parts.length=l.length→(∀(j:Nat) m p,l[j]? =some m→parts[j]? =some p→bF w P adr m p)→
  ∀(pre:List Value),pre.length=o→(pre ++ parts.flatten).length=sz∧fs.foldr (fun x K=>(match bf.find T x.2 with | some d=>jk T f x.2 (((pre ++ parts.flatten).drop x.1).take d.size) | none=>False)∧K) True
 | f,[],o,[],sz,parts,adr,h,hp,hr,pre,hpre=>by
  have h:=a₂ (show a₀ o sz=true from by simpa [iq] using h)
  have:parts= [] :=b₁ (by simpa using hp)
  subst this
  exact⟨by simp [hpre,h],trivial⟩
 | f,(o',t) :: fs,o,m :: l,sz,[],adr,h,hp,hr,pre,hpre=>by simp at hp
 | f,(o',t) :: fs,o,m :: l,sz,p :: parts,adr,h,hp,hr,pre,hpre=>by
  rw [iq,a₁] at h
  obtain⟨h1,h2⟩:=h
  have h1:=a₂ h1
  subst h1
  split at h2
  ·rename_i d hd
   simp only [a₁] at h2
   obtain⟨⟨h3,h4⟩,h5⟩:=h2
   have h3:=a₂ h3
   have hrep:=hr 0 m p rfl rfl
   have hpl:p.length=d.size:=by rw [hrep.size,h3]
   have ih:=sE h5 (parts:=parts) (by simpa using hp) (fun j m p h1 h2=>hr (j + 1) m p h1 h2) (pre ++ p) (by rw [a₆,hpre,hpl])
   have e:pre ++ (p :: parts).flatten=pre ++ p ++ parts.flatten:=sm
   rw [e]
   refine⟨ih.1,?_,ih.2⟩
   simp only [hd]
   have:((pre ++ p ++ parts.flatten).drop o).take d.size=p:=by
    rw [b₅,← hpre,e₆,← hpl,e₅]
   rw [this]
   exact mK h4 hrep
  ·cases h2
 | f,[],o,_ :: _,_,_,_,h,_,_,_,_=>by simp [iq] at h
 | f,_ :: _,o,[],_,_,_,h,_,_,_,_=>by simp [iq] at h
end
mutual
theorem Dk: ∀{a b:MV} {t:Bool} {xs ys:List Value} {adr adr':dV},GO a b=some t→bF w P adr a xs→bF w P adr' b ys→xs.length=ys.length∧(t=true↔xs=ys)
 | a,b,t,xs,ys,adr,adr',h,hx,hy=>by
  unfold GO at h
  split at h
  ·rename_i k m j n
   split at h
   ·rename_i hk
    injection h with h
    subst h
    have hk:=ot hk
    subst hk
    cases hx;cases hy
    simp
   ·cases h
  ·injection h with h
   subst h
   cases hx;cases hy
   simp
  ·injection h with h
   subst h
   cases hx;cases hy
   rename_i s u
   simp
  ·cases hx with
   | st parts hp hr=>cases hy with
    | st parts' hp' hr'=>exact sF h hp hp' hr hr'
  ·rename_i n es l n' es' l'
   cases hb:(a₀ n n' && a₀ es es') with
   | false=>rw [hb] at h;cases h
   | true=>
    rw [hb] at h
    cases hx with
    | arr parts hl hp hes hr=>cases hy with
     | arr parts' hl' hp' hes' hr'=>exact sF h (hp.trans hl.symm) (hp'.trans hl'.symm) hr hr'
  ·cases h
theorem sF: ∀{l l':List MV} {t:Bool} {parts parts':List (List Value)} {adr adr':dV},rC l l'=some t→parts.length=l.length→parts'.length=l'.length→(∀(j:Nat) m p,l[j]? =some m→parts[j]? =some p→bF w P adr m p)→(∀(j:Nat) m p,l'[j]? =some m→parts'[j]? =some p→bF w P adr' m p)→
  parts.flatten.length=parts'.flatten.length∧(t=true↔parts.flatten=parts'.flatten)
 | [],[],t,parts,parts',adr,adr',h,hp,hp',_,_=>by
  have h1:parts= [] :=b₁ (by simpa using hp)
  have h2:parts'= [] :=b₁ (by simpa using hp')
  subst h1;subst h2
  simp [rC] at h
  subst h
  simp
 | a :: l,b :: l',t,p :: parts,q :: parts',adr,adr',h,hp,hp',hr,hr'=>by
  rw [rC] at h
  split at h
  ·rename_i x y hx hy
   injection h with h
   subst h
   obtain⟨h1,h2⟩:=Dk hx (hr 0 a p rfl rfl) (hr' 0 b q rfl rfl)
   obtain⟨h3,h4⟩:=sF hy (parts:=parts) (parts':=parts') (by simpa using hp) (by simpa using hp') (fun j m p h1 h2=>hr (j + 1) m p h1 h2) (fun j m p h1 h2=>hr' (j + 1) m p h1 h2)
   refine⟨by simp only [a₉,a₆];omega,?_⟩
   rw [a₁,h2,h4,a₉,a₉]
   exact⟨fun ⟨e1,e2⟩=>by rw [e1,e2],fun e=>h₃ e h1⟩
  ·cases h
 | [],_ :: _,t,_,_,_,_,h,_,_,_,_=>by simp [rC] at h
 | _ :: _,[],t,_,_,_,_,h,_,_,_,_=>by simp [rC] at h
 | _ :: _,_ :: _,t,[],_,_,_,h,hp,_,_,_=>by simp at hp
 | _ :: _,_ :: _,t,_ :: _,[],_,_,h,_,hp,_,_=>by simp at hp
end
end
end
section
section
variable {Pg:Program} {T:bf} {w w':World} {P P':bC} {adr adr':dV} {m:FM} {cnt:Nat} {K:MV×Dl→Prop} {u v x y:Value} {r:MV}
theorem xj {k:Nat} {p:MV} {b:Bool} (h:so k p=some b) (hp:aI w P adr p u) :
  (k=0∧((u= .pointer none∧b=true)∨∃a,u= .pointer (some a)∧b=false))∨(k=1∧((u= .slice none 0 0∧b=true)∨∃a n c,u= .slice (some a) n c∧b=false))∨(k=2∧((u= .nilIface∧b=true)∨∃t z,u= .iface t z∧b=false)):=by
 unfold so at h
 split at h <;> first | (cases h;done) | (injection h with h;subst h)
 ·exact .inl ⟨rfl, .inl ⟨hp.nilp_,rfl⟩⟩
 ·obtain⟨g,_,e⟩:=hp.ptr_;exact .inl ⟨rfl, .inr ⟨_,e,rfl⟩⟩
 ·exact .inl ⟨rfl, .inr ⟨_,hp.gp_,rfl⟩⟩
 ·obtain⟨b,o,vs,e,_⟩:=hp.ep_;exact .inl ⟨rfl, .inr ⟨_,e,rfl⟩⟩
 ·exact .inr (.inl ⟨rfl, .inl ⟨hp.nils_,rfl⟩⟩)
 ·obtain⟨A,cap,es,parts,e,_,_,_,h4,_⟩:=hp.sl_
  cases A with
  | none=>exact absurd (h4 rfl).1 om
  | some a=>exact .inr (.inl ⟨rfl, .inr ⟨_,_,_,e,rfl⟩⟩)
 ·exact .inr (.inr ⟨rfl, .inl ⟨hp.nili_,rfl⟩⟩)
 ·cases hp with | val cs h=>cases h with | ifc cs h=>exact .inr (.inr ⟨rfl, .inr ⟨_,_,rfl,rfl⟩⟩)
theorem MA (hT:bL Pg T) {op:BinOp} {t:TypeId} {xo yo:Operand} {p q:MV} (h:(Mu Pg T op t p q).runP K) (hp:aI w P adr p u) (hq:aI w P adr q v) :
  ∃r y,K (r, .none)∧(do eqGuard op t xo yo u v;binOp op t u v:Sem Value).run Pg w= .ok y w∧aI w P adr r y:=by
 unfold Mu at h
 split at h
 ·rename_i d hd
  cases hb:(d.agg && dX d p && dX d q) with
  | false=>rw [hb] at h;exact h.elim
  | true=>
   rw [hb] at h
   simp only [a₁] at hb
   obtain⟨⟨ha,hfp⟩,hfq⟩:=hb
   obtain⟨⟨he,hc1,hc2⟩,b,hbe,h⟩:=h
   unfold NX at he
   simp only [a₁,g₇] at he
   obtain⟨cs,hcs,rfl⟩:=hp.agg_ (by rw [(gV hfp).2.1,ha])
   obtain⟨cs',hcs',rfl⟩:=hq.agg_ (by rw [(gV hfq).2.1,ha])
   obtain⟨b',r1,r2,r3⟩:=yS (P:=Pg) (T:=T) hT hd ha he.1 he.2 xo yo (mK hc1 hcs) (mK hc2 hcs')
   have hbb:b'=b:=by
    have:=(Dk hbe hcs hcs').2
    rw [Bool.eq_iff_iff,r3,this]
   subst hbb
   cases op <;> first | exact h.elim | skip
   ·exact⟨_,_,h,r1 w, .val [_] .bool⟩
   ·exact⟨_,_,h,r2 w, .val [_] .bool⟩
 ·exact h.elim
theorem Ko (hT:bL Pg T) {op:BinOp} {t:TypeId} {xo yo:Operand} {p q:MV} (h:(EI Pg T op t yo p q).runP K) (hp:aI w P adr p u) (hq:aI w P adr q v) :
  ∃r y,K (r, .none)∧(do eqGuard op t xo yo u v;binOp op t u v:Sem Value).run Pg w= .ok y w∧aI w P adr r y:=by
 have fin: ∀{b:Bool} {a1 a2:SV},a1.den=u→a2.den=v→ju T t yo a1 a2=some b→(match op with | .eql=>(pureA (.bool b)).runP K | .neq=>(pureA (.bool (!b))).runP K | _=>False)→∃r y,K (r, .none)∧(do eqGuard op t xo yo u v;binOp op t u v:Sem Value).run Pg w= .ok y w∧aI w P adr r y:=by
  intro b a1 a2 e1 e2 hc hk
  subst e1;subst e2
  obtain⟨h1,h2⟩:=sg (xo:=xo) hT hc w
  cases op <;> first | exact hk.elim | skip
  ·exact⟨_,_,hk,h1, .val [_] .bool⟩
  ·exact⟨_,_,hk,h2, .val [_] .bool⟩
 have finN: ∀{k:Nat} {a2:SV},a2.den=v→(vq (so k p) op).runP K→(∀b,so k p=some b→ju T t yo (.val u) a2=some b)→∃r y,K (r, .none)∧(do eqGuard op t xo yo u v;binOp op t u v:Sem Value).run Pg w= .ok y w∧aI w P adr r y:=by
  intro k a2 e2 h hb
  cases hm:so k p with
  | none=>rw [hm] at h;exact h.elim
  | some b=>
   rw [hm] at h
   refine fin (a1:= .val u) (b:=b) rfl e2 (hb b hm) ?_
   cases op <;> exact h
 cases q with
 | int k' b=>
  cases p with
  | int k a=>
   replace h:aX.runP (bif oe op || a₀ (EF k) (EF k') then(GY op k a b).bind pureA else .bad) K:=h
   cases hk:(oe op || a₀ (EF k) (EF k')) with
   | false=>rw [hk] at h;exact h.elim
   | true=>
    rw [hk] at h
    rw [hp.int_,hq.int_]
    obtain⟨y,hy,r,hr,hrep⟩:=Bs (P:=Pg) (t:=t) (xo:=xo) (yo:=yo) (k':=k') hk (Kl (w:=w) (P:=P) (adr:=adr) h)
    exact⟨r,y,hr,hy w,hrep⟩
  | _=>exact h.elim
 | str b=>
  cases p with
  | str a=>
   rw [hp.str_,hq.str_]
   obtain⟨y,hy,r,hr,hrep⟩:=Bu (P:=Pg) (t:=t) (xo:=xo) (yo:=yo) (Km (w:=w) (P:=P) (adr:=adr) h)
   exact⟨r,y,hr,hy w,hrep⟩
  | _=>exact h.elim
 | bool b=>
  cases p with
  | bool a=>
   replace h:aX.runP (match bf.find T t with | some .bool=>(GZ op a b).bind pureA | _=> .bad) K:=h
   split at h
   ·rename_i hd
    have hu:Pg.underlying t=some .bool:=TD.fits_bool (hT.fits hd)
    rw [hp.bool_,hq.bool_]
    obtain⟨y,hy,r,hr,hrep⟩:=yN (P:=Pg) (t:=t) (xo:=xo) (yo:=yo) hu (Kn (w:=w) (P:=P) (adr:=adr) h)
    exact⟨r,y,hr,hy w,hrep⟩
   ·exact h.elim
  | _=>exact h.elim
 | nilp=>
  replace h:aX.runP (match bf.find T t with | some .ptr=>vq (so 0 p) op | _=> .bad) K:=h
  split at h
  ·rename_i hd
   refine finN (k:=0) (a2:= .val (.pointer none)) hq.nilp_.symm h fun b hb=>?_
   rcases xj hb hp with ⟨_,hc⟩ | ⟨hk,_⟩ | ⟨hk,_⟩
   ·rcases hc with ⟨rfl,rfl⟩ | ⟨a,rfl,rfl⟩ <;> simp [ju,hd]
   ·cases hk
   ·cases hk
  ·exact h.elim
 | nils=>
  replace h:aX.runP (match bf.find T t with | some (.slice ..)=>vq (so 1 p) op | _=> .bad) K:=h
  split at h
  ·rename_i e es hd
   refine finN (k:=1) (a2:= .val (.slice none 0 0)) hq.nils_.symm h fun b hb=>?_
   rcases xj hb hp with ⟨hk,_⟩ | ⟨_,hc⟩ | ⟨hk,_⟩
   ·cases hk
   ·rcases hc with ⟨rfl,rfl⟩ | ⟨a,n,c,rfl,rfl⟩ <;> simp [ju,hd]
   ·cases hk
  ·exact h.elim
 | nili=>
  replace h:aX.runP (match bf.find T t,yo with | some .iface, .const _=>vq (so 2 p) op | _,_=> .bad) K:=h
  split at h
  ·have hd:bf.find T t=some .iface:=by assumption
   refine finN (k:=2) (a2:= .val .nilIface) hq.nili_.symm h fun b hb=>?_
   rcases xj hb hp with ⟨hk,_⟩ | ⟨hk,_⟩ | ⟨_,hc⟩
   ·cases hk
   ·cases hk
   ·rcases hc with ⟨rfl,rfl⟩ | ⟨t',z,rfl,rfl⟩ <;> simp [ju,hd]
  ·exact h.elim
 | _=>exact MA hT h hp hq
theorem Hc (hI:aQ w P adr m) {es:Nat} (hes:0 < es) {q:MV} {k:Bool→Nat→List MV→aX (MV×Dl)} (h:(oh m es q k).runP K) (hq:aI w P adr q v) :
  ∃(fl:Bool) (n:Nat) (l:List MV) (A:Option Addr) (cap:Nat) (parts:List (List Value)),(k fl n l).runP K∧v= .slice A n cap∧l.length=n∧parts.length=n∧(∀p∈parts,p.length=es)∧(A=none→n=0)∧
   (∀a,A=some a→∀(j:Nat) x,parts.flatten[j]? =some x→w.cell? (a.add j)=some x)∧(∀(j:Nat) m p,l[j]? =some m→parts[j]? =some p→bF w P (if fl then noAdr else adr) m p):=by
 unfold oh at h
 split at h
 ·rename_i n l
  obtain⟨hh,h⟩:=h
  obtain⟨A,cap,es',parts,rfl,h1,h2,h3,h4,h5,h6,h7⟩:=hq.sl_
  refine⟨true,n,l,A,cap,parts,h,rfl,h1,h2,fun p hp=>?_,fun e=>(h4 e).1,fun a ha j x hx=>?_,h7⟩
  ·have hn:n≠0:=by rw [← h2];exact fun e=>by rw [b₁ e] at hp;cases hp
   cases l with
   | nil=>simp at h1;omega
   | cons z l=>
    have hz:=a₂ (show a₀ z.size es=true from hh)
    obtain⟨q,hq⟩:=bX (l:=z :: l) (parts:=parts) (by rw [h2,h1]) (i:=0) rfl
    rw [h3 p hp,← hz,← (h7 0 z q rfl hq).size,h3 q (a₈ hq)]
  ·by_cases hn:n=0
   ·have:parts= [] :=b₁ om
    subst this
    simp at hx
   ·obtain⟨b,o,hA,hc⟩:=h6 hn
    rw [ha] at hA
    injection hA with hA
    subst hA
    rw [Addr.add_mid]
    exact(hc j x hx).1
 ·rw [hq.nils_]
  exact⟨true,0,[],none,0,[],h,rfl,rfl,rfl,fun p hp=>(nomatch hp),fun _=>rfl,fun a ha=>(nomatch ha),fun j m p h=>(by simp at h)⟩
 ·rename_i c es' off n
  split at h
  ·rename_i b hb
   cases hc:(a₀ es es' && a₀ b.es es) with
   | false=>rw [hc] at h;exact h.elim
   | true=>
    rw [hc] at h
    simp only [a₁] at hc
    obtain⟨e1,e2⟩:=hc
    have e1:=a₂ e1
    have e2:=a₂ e2
    subst e1
    obtain⟨hle,l,hl,h⟩:=h
    injection hl with hl
    subst hl
    have hlen:(cutL b.l off (off + n)).length=n:=by unfold cutL;rw [a₅,c₁];omega
    rcases hq.ms_ with ⟨rfl,rfl,rfl⟩ | ⟨g,o,cap,hg,rfl,ho,h5,h6,h7⟩
    ·exact⟨b.row,0,_,none,0,[],h,rfl,hlen,rfl,fun p hp=>(nomatch hp),fun _=>rfl,fun a ha=>(nomatch ha),fun j m p _ h=>(by simp at h)⟩
    ·rcases hI.blk c b hb with h1 | ⟨g',h1,h2⟩
     ·rw [hg] at h1;cases h1.2.2.1
     ·rw [hg] at h1
      injection h1 with h1
      subst h1
      obtain⟨cur,parts,h3,h4,h8,h9,h10⟩:=h2.ofE om
      refine⟨b.row,n,_,some ⟨g,o,none⟩,cap,(parts.drop off).take n,h,rfl,hlen,by rw [a₅,c₁];omega,fun p hp=>by rw [h8 p (f₉ (b₄ hp)),e2],fun e=>(nomatch e),fun a ha j x hx=>?_,fun j z p hz hp=>?_⟩
      ·injection ha with ha
       subst ha
       have hn0:n≠0:=by
        rintro rfl
        simp at hx
       have ho:=ho (.inl hn0)
       subst ho
       rw [Addr.add_mid,cell_of_row w g _ cur b.ty (0,0) h3]
       have:=cI h10 (cK (es:=es) (fun p hp=>by rw [h8 p hp,e2]) off n hx om)
       simpa using this
      ·obtain⟨hz,hj⟩:=iS hz
       rw [c₃] at hp
       split at hp
       ·rw [c₄] at hp;exact h9 _ z p hz hp
       ·cases hp
  ·exact h.elim
 ·exact h.elim
end
end
end Go.Proofs.YthdhlcicpcnbhaaGreatDoor
