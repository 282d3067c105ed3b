/- Parts of a proof, one behind the other: Base, Opens, Eng, Vc, Op, OpOk, M1, M2, M3, Code, Slice, Eq, M4, M5, M6, M7, M8, M9, M10, M11, M12, M13, M14. -/
import Derived.WalkKit
import Derived.ProofKit
import Derived.OpenShut
import Derived.OwnWalk
import Derived.Deep.QuietTactic
import Derived.BigQuiet
import Derived.Deep.LoopGhost
import Derived.Deep.MidRow
import Derived.Deep.WholeRow
import Derived.Deep.Slices
import Derived.Lib.Hide
import GoSem.ClaimJoined
import Derived.Orders
import Derived.OrdersHeld
import Derived.Shelf.Abstract
import Derived.ChangeKeysEq
import Derived.Laws.IdiomStrings
import Derived.MapKept
import Derived.Test.YtohikcplmbkmeaaGreatDoorRows
import Derived.Test.YtohikcplmbkmeaaGreatDoorProg
import Derived.Shelf.Small.Bits
import Derived.Shelf.Strconv.Itoa0
import Derived.Shelf.Unicode.DecodeSlow
import Derived.Shelf.Unicode.DecodeAny
import Derived.Test.YtohikcplmbkmeaaGreatDoorCards
import Derived.Test.YtohikcplmbkmeaaGreatDoorTie
import Derived.Deep.DeepHandedRow
import Derived.Lib.LaidU8T
import Derived.Lay
import Derived.Stop.LaidErr
import Derived.Stop.Joined
import Derived.Shelf.SlSortCmp.WholeK
import Derived.Laws.Externs
import Derived.Lib.ItoaNum
import Derived.Shelf.SlSortCmp.QuietGrown
import Derived.Shelf.GgSortFunc.InsertionK
import Derived.Lib.Walk
import Derived.Shelf.RegionOpenPlain
import Derived.Lib.SliceRun
import Derived.Lib.JoinLaws
import Derived.Lib.AppendZeros
import Derived.Lib.Overlaps
import Derived.Lib.AppendZerosOnto
import Derived.Laws.NewBlocks
import Derived.Laws.IdiomCopy
import Derived.Shelf.SlSortCmp.InsertionK
open Nat renaming eq_of_beq_eq_true → a₀,beq → a₂,min_eq_left → b₉,le_of_ble_eq_true → c₇,mul_le_mul_right → c₈,ble → d₃,add_mul → d₇,zero_le → d₈,le_refl → e₉,add_assoc → f₀,blt → f₃,succ_mul → f₄,blt_eq → g₁,lt_of_lt_of_le → g₇,add_zero → g₉,zero_add → h₁,mod_eq_of_lt → h₄
open Bool renaming and_eq_true → a₁,false_eq_true → c₃,not_eq_true' → h₂
open List renaming getElem?_eq_getElem → a₃,getElem?_eq_some_iff → a₄,length_append → a₅,eq_nil_of_length_eq_zero → a₆,length_take → a₇,length → a₈,mem_of_getElem? → a₉,flatten_cons → b₀,getElem?_map → b₁,getElem?_append_left → b₂,replicate → b₃,mem_of_mem_take → b₄,append_assoc → b₅,mem_replicate → b₆,all_eq_true → b₇,getElem?_append_right → b₈,size_toArray → c₀,length_map → c₁,length_drop → c₂,getElem?_take → c₄,getElem?_drop → c₅,take_append_drop → c₆,append_nil → c₉,ext_getElem? → d₂,mem_cons_of_mem → d₄,mem_iff_getElem → d₅,mem_cons → d₆,take_succ_cons → d₉,replicate_succ → e₀,mem_cons_self → e₁,take_left → e₂,getElem?_set → e₃,take_of_length_le → e₄,map_cons → e₅,getElem?_eq_none → e₆,length_flatten → e₇,drop_left → e₈,drop_eq_getElem_cons → f₁,mem_or_eq_of_mem_set → f₂,mem_flatten → f₅,mem_map → f₆,getElem?_replicate → f₇,foldr_cons → f₈,sum_replicate_nat → f₉,getElem?_append → g₀,mem_of_mem_drop → g₂,take_replicate → g₃,drop_succ_cons → g₄,flatten_append → g₅,set_cons_succ → g₆,extract → g₈,map_replicate → h₀,length_cons → h₃,getElem_mem → h₅,append_inj → h₆,map_append → h₇,mem_range → h₈
open Option renaming map_eq_some_iff → d₀
open Int renaming toNat_natCast → d₁
set_option maxRecDepth 20000
set_option maxHeartbeats 16000000
set_option linter.unusedVariables false
set_option linter.unusedSimpArgs false
namespace Go.Proofs.YtohikcplmbkmeaaGreatDoor
open Go.RowKit
theorem om {p:Prop} (h:p:=by omega):p:=h
theorem sm {p:Prop} (h:p:=by simp):p:=h
theorem dm {p:Prop} (h:p:=by dsimp only;omega):p:=h
theorem ot {p:Prop} [Decidable p] (h:decide p=true):p:=of_decide_eq_true h
abbrev ae (n:Nat):Nat×Bool:=(n,false)
abbrev dj (n:Nat):Nat×Bool:=(n,true)
theorem oF {p:Prop} [Decidable p] (h:decide p=false): ¬p:=of_decide_eq_false h
theorem bx:(∀{p:Prop} [Decidable p],(decide p=true)=p)∧(∀{p:Prop} [Decidable p],(decide p=false)↔ ¬p)∧(∀{α:Type} [BEq α] [LawfulBEq α] {a b:α},(a == b)=true↔a=b)∧(∀{α:Type} [BEq α] [LawfulBEq α] {a b:α},(a !=b)=true↔a≠b)∧(∀{α:Type} (a b:α),(a≠b)= ¬(a=b))∧((!true)=false)∧((!false)=true)∧(∀{α:Type} [BEq α] [LawfulBEq α] {a b:α},(a == b)=false↔a≠b)∧(∀{α:Type} [BEq α] [LawfulBEq α] {a b:α},(a !=b)=false↔a=b)∧(∀(b:Bool),(¬b=true)=(b=false))∧(∀(b:Bool),(¬b=false)=(b=true))∧(∀{a b:Bool},(!a)=b↔a= !b):=
 ⟨decide_eq_true_eq,decide_eq_false_iff_not,beq_iff_eq,bne_iff_ne,ne_eq,Bool.not_true,Bool.not_false,beq_eq_false_iff_ne,bne_eq_false_iff_eq,Bool.not_eq_true,Bool.not_eq_false,Bool.not_eq_eq_eq_not⟩
section
abbrev Fp:=Nat→Prop
theorem oG {w w':World} {b o:Nat} {cs:List Value} (h:w.rangeAt b o cs) (hw:b < w.heap.size→w'.heap[b]? =w.heap[b]?):w'.rangeAt b o cs:=fun j v hv=>by
 have hc:=h j v hv;have hlt:=World.block_lt_of_cell? w _ hc;rw [World.cell?_of_block (w:=w) (w':=w') (hw hlt)];exact hc
def Po (w:World) (g:Nat) (t:TypeId) (cs:Array Value):Prop:=w.heap[g]? =some (.cells cs t (0,0))
end
section
open Go.RowKit Go.ChangeShapes Go.Deep
theorem F5:reachBytes≤140737488355328:=by decide
theorem sK {H:Type} {P:Program} {e:TypeId} {l:List (DataW H)} (h:(DataW.weightsAll P e l).all (· ≤reachBytes)=true) {d:DataW H} (hd:d∈l):(d.weights P e).all (· ≤reachBytes)=true:=by
 induction l with
 | nil=>cases hd
 | cons x l ih=>
  simp only [DataW.weightsAll,List.all_append,a₁] at h;rcases d₆.1 hd with rfl | hd
  ·exact h.1
  ·exact ih h.2 hd
end
section
inductive SV where
 | val (v:Value)
 | ptr (i g off:Nat)
 | lit (b:Bool)
 deriving Inhabited
structure KB where
 g:Nat
 t:TypeId
 cs:List SV
abbrev F6:=List (Nat×KB)
abbrev Nr:=List (Nat×SV)
abbrev Jn:=List (World×Fp)
def F6.find:F6→Nat→Option KB
 | [],_=>none
 | (j,kb) :: M,i=>bif a₂ j i then some kb else F6.find M i
def Nr.get:Nr→Nat→Option SV
 | [],_=>none
 | (j,v) :: E,i=>bif a₂ j i then some v else Nr.get E i
def SV.den:SV→Value
 | .val v=>v
 | .ptr _ g off=> .pointer (some ⟨g,off,none⟩)
 | .lit b=> .bool b
structure cG (ex:Fp) (h w:World):Prop where
 os:w.os=h.os
 tape:w.tape=h.tape
 output:w.output=h.output
 size:h.heap.size≤w.heap.size
 block: ∀b,b < h.heap.size→¬ ex b→w.heap[b]? =h.heap[b]?
structure A (M:F6) (H:Jn) (w:World):Prop where
 blk: ∀i kb,M.find i=some kb→Po w kb.g kb.t (kb.cs.map SV.den).toArray
 apart: ∀i j ki kj,M.find i=some ki→M.find j=some kj→i≠j→ki.g≠kj.g
 since: ∀p∈H,cG p.2 p.1 w
 fresh: ∀p∈H,∀i kb,M.find i=some kb→p.2 kb.g∨p.1.heap.size≤kb.g
def ev (E:Nr):Operand→Option SV
 | .tmp t=>E.get t
 | .const v=>some (.val v)
 | .global g=>some (.val (.pointer (some ⟨g,0,none⟩)))
 | .func f=>some (.val (.func (.func f) #[] #[]))
theorem gE {d t:Nat} (h: ¬ d=t):a₂ d t=false:=by
 cases hb:a₂ d t with
 | false=>rfl
 | true=>exact absurd (a₀ hb) h
theorem cG.refl (ex:Fp) (w:World):cG ex w w:=⟨rfl,rfl,rfl,e₉ _,fun _ _ _=>rfl⟩
theorem cG.of_below {w w':World} (h:Below w.heap.size w w'):cG (fun _=>False) w w':=⟨h.os,h.tape,h.output,h.size,fun b hb _=>h.block b hb⟩
theorem cG.below {h w:World} (k:cG (fun _=>False) h w):Below h.heap.size h w:=⟨k.os,k.tape,k.output,k.size,fun b hb=>k.block b hb (fun e=>e)⟩
end
section
inductive TD where
 | int (k:IntKind) | bool | str | ptr | iface
 | slice (e:TypeId) (es:Nat)
 | arr (n:Nat) (e:TypeId) (es:Nat)
 | struct (fs:List (Nat×TypeId)) (size:Nat)
 | fn
 | other
abbrev bB:=List (Nat×TD)
def bB.find:bB→Nat→Option TD
 | [],_=>none
 | (j,d) :: T,i=>bif a₂ j i then some d else bB.find T i
def TD.agg:TD→Bool | .arr .. | .struct .. =>true | _=>false
def TD.size:TD→Nat | .arr n _ es=>n * es | .struct _ s=>s | _=>1
def fU (P:Program) (t:TypeId) (n:Nat):Bool:=match P.info? t with | some i=>i.size == n | none=>false
def wX (P:Program) (t:TypeId):Bool:=match P.info? t with | some i=>decide (0 < i.size) | none=>false
def sL (P:Program):List (Nat×TypeId)→Nat→Bool
 | [],_=>true
 | (o,t) :: fs,n=>o == n && match P.info? t with | some i=>sL P fs (n + i.size) | none=>false
def TD.fitsB (P:Program) (t:TypeId) (d:TD):Bool:=
 fU P t d.size && match d,P.underlying t with
 | .int k,some (.int k')=>decide (k=k')
 | .bool,some .bool=>true
 | .str,some .string=>true
 | .ptr,some (.pointer _)=>true
 | .ptr,some .unsafePointer=>true
 | .iface,some (.interface _)=>true
 | .slice e es,some (.slice e')=>decide (e=e') && fU P e es
 | .arr n e es,some (.array n' e')=>decide (n=n') && decide (e=e') && fU P e es
 | .struct fs _,some (.struct fields)=>decide (fields.toList.map (fun f=>(f.offset,f.type))=fs) && fields.toList.all (fun f=>wX P f.type) && sL P fs 0
 | .fn,some (.func ..)=>true
 | .other,some d=>(match d with | .struct _ | .array _ _=>false | _=>true)
 | _,_=>false
def OL:Value→Value→Bool
 | .int k a, .int j b=>decide (k=j) && decide (a=b)
 | .bool a, .bool b=>a == b
 | .string a, .string b=>decide (a.data=b.data)
 | .pointer none, .pointer none=>true
 | .slice none 0 0, .slice none 0 0=>true
 | .map none, .map none=>true
 | .nilFunc, .nilFunc=>true
 | .nilIface, .nilIface=>true
 | _,_=>false
theorem LM {a b:Value} (h:OL a b=true):a=b:=by
 unfold OL at h;split at h <;> simp_all
 cases ‹ByteArray›;cases ‹ByteArray›;simp_all
def cQ (T:bB):Nat→Nat→List SV→Option (List SV)
 | 0,_,_=>none
 | f + 1,t,acc=>match bB.find T t with
  | some (.int k)=>some (.val (.int k 0) :: acc)
  | some .bool=>some (.val (.bool false) :: acc)
  | some .str=>some (.val (.string ⟨#[]⟩) :: acc)
  | some .ptr=>some (.val (.pointer none) :: acc)
  | some .iface=>some (.val .nilIface :: acc)
  | some .fn=>some (.val .nilFunc :: acc)
  | some (.slice ..)=>some (.val (.slice none 0 0) :: acc)
  | some (.arr n e _)=>n.rec (some acc) (fun _ r=>match r with | some a=>cQ T f e a | none=>none)
  | some (.struct fs _)=>fs.foldr (fun x r=>match r with | some a=>cQ T f x.2 a | none=>none) (some acc)
  | _=>none
def wY:List SV→List Value→Bool
 | [],[] =>true
 | a :: x,b :: y=>OL a.den b && wY x y
 | _,_=>false
theorem vE: ∀{x:List SV} {y:List Value},wY x y=true→x.map SV.den=y
 | [],[],_=>rfl
 | a :: x,b :: y,h=>by
  simp only [wY,a₁] at h
  simp [LM h.1,vE h.2]
 | [],_ :: _,h=>by cases h
 | _ :: _,[],h=>by cases h
def Lq (P:Program) (T:bB) (t:TypeId):Bool:=
 match cQ T 9 t [],(P.info? t).bind (·.zero) with
 | some z,some v=>wY z v.cells.toList
 | none,_=>true
 | _,_=>false
def OM (P:Program) (T:bB):Bool:=T.all fun x=>x.2.fitsB P x.1 && Lq P T x.1
structure cB (P:Program) (T:bB):Prop where
 all:OM P T=true
theorem bB.find_mem: ∀{T:bB} {t:Nat} {d:TD},bB.find T t=some d→(t,d)∈T
 | (j,e) :: T,t,d,h=>by
  have h':(bif a₂ j t then some e else bB.find T t)=some d:=h
  by_cases hj:j=t
  ·subst hj;simp at h';subst h';exact e₁
  ·simp only [gE hj,cond_false] at h'
   exact d₄ _ (bB.find_mem h')
theorem cB.fits {P:Program} {T:bB} (h:cB P T) {t:Nat} {d:TD} (ht:bB.find T t=some d):d.fitsB P t=true:=by
 have:=b₇.1 h.all _ (bB.find_mem ht);simp only [a₁] at this;exact this.1
theorem cB.zero {P:Program} {T:bB} (h:cB P T) {t:Nat} {z:List SV} (hz:cQ T 9 t [] =some z) (w:World) :
  ∃v:Value,(zeroValue t).run P w= .ok v w∧v.cells.toList=z.map SV.den:=by
 have hd: ∃d,bB.find T t=some d:=by
  cases hf:bB.find T t with
  | none=>simp [cQ,hf] at hz
  | some d=>exact ⟨d,rfl⟩
 obtain⟨d,hd⟩:=hd
 have:=b₇.1 h.all _ (bB.find_mem hd)
 simp only [a₁] at this
 have h2:=this.2
 unfold Lq at h2
 rw [hz] at h2
 cases hi:P.info? t with
 | none=>simp [hi] at h2
 | some i=>
  cases hv:i.zero with
  | none=>simp [hi,hv] at h2
  | some v=>
   simp [hi,hv] at h2
   exact⟨v,by simp [zeroValue,typeInfo,hi,hv],(vE h2).symm⟩
theorem bD {P:Program} {t:TypeId} {n:Nat} (h:fU P t n=true) (w:World):(sizeOf t).run P w= .ok n w:=by
 unfold fU at h;split at h
 ·rename_i i hi;simp at h;simp [sizeOf,typeInfo,hi,h]
 ·cases h
theorem TD.fits_size {P:Program} {t:TypeId} {d:TD} (h:d.fitsB P t=true):fU P t d.size=true:=by
 unfold TD.fitsB at h;simp only [a₁] at h;exact h.1
theorem TD.fits_agg {P:Program} {t:TypeId} {d:TD} (h:d.fitsB P t=true) (w:World):(isAgg t).run P w= .ok d.agg w:=by
 unfold TD.fitsB at h;simp only [a₁] at h;have h2:=h.2;split at h2 <;> first | (rename_i hu;simp [isAgg,run_underlying hu,TD.agg];done) | (cases h2;done) | skip
 ·rename_i hu;split at h2
  ·cases h2
  ·cases h2
  ·rename_i hs ha;unfold isAgg;rw [Sem.run_bind,run_underlying hu];rename_i d' _;cases d' <;> simp_all [TD.agg]
theorem TD.fits_int {P:Program} {t:TypeId} {k:IntKind} (h:(TD.int k).fitsB P t=true):P.underlying t=some (.int k):=by
 unfold TD.fitsB at h;simp only [a₁] at h;obtain⟨_,h⟩:=h;cases hu:P.underlying t with
 | none=>simp [hu] at h
 | some d=>cases d <;> simp_all
theorem TD.fits_bool {P:Program} {t:TypeId} (h:TD.bool.fitsB P t=true):P.underlying t=some .bool:=by
 unfold TD.fitsB at h;simp only [a₁] at h;obtain⟨_,h⟩:=h;cases hu:P.underlying t with
 | none=>simp [hu] at h
 | some d=>cases d <;> simp_all
theorem TD.fits_str {P:Program} {t:TypeId} (h:TD.str.fitsB P t=true):P.underlying t=some .string:=by
 unfold TD.fitsB at h;simp only [a₁] at h;obtain⟨_,h⟩:=h;cases hu:P.underlying t with
 | none=>simp [hu] at h
 | some d=>cases d <;> simp_all
theorem TD.fits_slice {P:Program} {t e:TypeId} {es:Nat} (h:(TD.slice e es).fitsB P t=true):P.underlying t=some (.slice e)∧fU P e es=true:=by
 unfold TD.fitsB at h;simp only [a₁] at h;obtain⟨_,h⟩:=h;cases hu:P.underlying t with
 | none=>simp [hu] at h
 | some d=>
  cases d <;> simp [hu] at h ⊢
  obtain⟨h1,h2⟩:=h;first | (subst h1;exact⟨rfl,h2⟩) | (obtain⟨h1,h3⟩:=h1;subst h1;subst h3;exact⟨⟨rfl,rfl⟩,h2⟩)
theorem TD.fits_arr {P:Program} {t e:TypeId} {n es:Nat} (h:(TD.arr n e es).fitsB P t=true):P.underlying t=some (.array n e)∧fU P e es=true:=by
 unfold TD.fitsB at h;simp only [a₁] at h;obtain⟨_,h⟩:=h;cases hu:P.underlying t with
 | none=>simp [hu] at h
 | some d=>
  cases d <;> simp [hu] at h ⊢
  obtain⟨h1,h2⟩:=h;first | (subst h1;exact⟨rfl,h2⟩) | (obtain⟨h1,h3⟩:=h1;subst h1;subst h3;exact⟨⟨rfl,rfl⟩,h2⟩)
theorem TD.fits_struct {P:Program} {t:TypeId} {fs:List (Nat×TypeId)} {sz:Nat} (h:(TD.struct fs sz).fitsB P t=true) :
  ∃fields:Array Field,P.underlying t=some (.struct fields)∧fields.toList.map (fun f=>(f.offset,f.type))=fs∧fields.toList.all (fun f=>wX P f.type)=true∧sL P fs 0=true:=by
 unfold TD.fitsB at h
 simp only [a₁] at h
 obtain⟨_,h⟩:=h
 cases hu:P.underlying t with
 | none=>simp [hu] at h
 | some d=>
  cases d <;> simp only [hu,c₃,a₁,decide_eq_true_eq] at h
  exact⟨_,rfl,h.1.1,h.1.2,h.2⟩
theorem TD.fits_some {P:Program} {t:TypeId} {d:TD} (h:d.fitsB P t=true): ∃x,P.underlying t=some x:=by
 unfold TD.fitsB at h;simp only [a₁] at h;obtain⟨_,h⟩:=h;cases hu:P.underlying t with
 | none=>simp [hu] at h
 | some x=>exact ⟨x,rfl⟩
end
section
def Jo {α:Type}:List α→Nat→Option α
 | [],_=>none
 | x :: _,0=>some x
 | _ :: l,n + 1=>Jo l n
theorem sM {α:Type}: ∀(l:List α) (n:Nat),Jo l n=l[n]?
 | [],_=>by simp [Jo]
 | x :: l,0=>rfl
 | x :: l,n + 1=>by simp [Jo,sM l n]
def vf {α:Type}:List α→Nat→α→Option (List α)
 | [],_,_=>none
 | _ :: l,0,v=>some (v :: l)
 | x :: l,n + 1,v=>match vf l n v with | some r=>some (x :: r) | none=>none
theorem Cs {α:Type}: ∀{l:List α} {n:Nat} {v:α} {r:List α},vf l n v=some r→n < l.length∧r=l.set n v
 | [],_,_,_,h=>by simp [vf] at h
 | x :: l,0,v,r,h=>by simp [vf] at h;subst h;simp
 | x :: l,n + 1,v,r,h=>by
  simp only [vf] at h
  split at h
  ·rename_i r' hr
   obtain⟨h1,h2⟩:=Cs hr
   injection h with h
   subst h;subst h2
   simp;exact h1
  ·cases h
def OF:SV→List SV
 | .val (.agg ⟨l⟩)=>l.map SV.val
 | v=> [v]
def Jp:F6→Nat→List SV→(F6→Prop)→Prop
 | [],_,_,K=>K []
 | (j,kb) :: M,i,cs,K=>bif a₂ j i then K ((j,⟨kb.g,kb.t,cs⟩) :: M) else Jp M i cs fun r=>K ((j,kb) :: r)
def Jq:List SV→(List Value→Prop)→Prop
 | [],K=>K []
 | .val v :: l,K=>Jq l fun r=>K (v :: r)
 | .ptr _ g off :: l,K=>Jq l fun r=>K (.pointer (some ⟨g,off,none⟩) :: r)
 | .lit b :: l,K=>Jq l fun r=>K (.bool b :: r)
def ON:Nat→List SV→List SV
 | 0,_=> []
 | _,[] => []
 | n + 1,x :: l=>x :: ON n l
def OO:Nat→List SV→List SV
 | 0,l=>l
 | _,[] => []
 | n + 1,_ :: l=>OO n l
def NA (l:List SV):List SV→List SV
 | [] =>l
 | r=>l ++ r
def Jr (cs:List SV) (off:Nat) (l:List Value) (n:Nat):List SV:=ON off cs ++ NA (l.map SV.val) (OO (off + n) cs)
def lA:List Nat→List Value→List (List Value)
 | [],_=> []
 | n :: ns,z=>tk n z :: lA ns (dp n z)
where
 tk:Nat→List Value→List Value
  | 0,_=> []
  | _,[] => []
  | n + 1,x :: l=>x :: tk n l
 dp:Nat→List Value→List Value
  | 0,l=>l
  | _,[] => []
  | n + 1,_ :: l=>dp n l
def wZ:List (List Value)→List Value
 | [] => []
 | l :: ls=>app l (wZ ls)
where
 app:List Value→List Value→List Value
  | [],r=>r
  | x :: l,r=>x :: app l r
def jg:Value→List Value
 | .agg ⟨l⟩=>l
 | v=> [v]
def oH (T:bB):List (Nat×TypeId)→Option (List Nat)
 | [] =>some []
 | (_,t) :: fs=>match bB.find T t with
  | some d=>match oH T fs with | some r=>some (d.size :: r) | none=>none
  | none=>none
def w4 (T:bB) (t:TypeId):Option (List Nat):=match bB.find T t with
 | some (.struct fs _)=>oH T fs
 | some (.arr n _ es)=>some (b₃ n es)
 | _=>none
def jD:List (List Value)→List (Nat×Value)→Option (List (List Value))
 | segs,[] =>some segs
 | segs,(i,v) :: r=>match vf segs i (jg v) with
  | some segs'=>jD segs' r
  | none=>none
def oI:List Nat→List (Nat×Value)→Prop
 | _,[] =>True
 | ns,(i,v) :: r=>Jo ns i=some (jg v).length∧oI ns r
section
variable (P:Program) (T:bB) (E:Nr) (M:F6) (H:Jn)
abbrev F7:=SV→F6→Jn→Prop
def Pe (t:TypeId) (p:SV) (K:F7):Prop:=match bB.find T t with
 | none=>False
 | some d=>match p with
  | .ptr i g off=>match M.find i with
   | none=>False
   | some kb=>match d.agg with
    | false=> ∃v,Jo kb.cs off=some v∧kb.g=g∧K v M H
    | true=>d₃ (off + d.size) kb.cs.length=true∧kb.g=g∧Jq (ON d.size (OO off kb.cs)) fun l=>K (.val (.agg ⟨l⟩)) M H
  | .val (.pointer (some a))=> ∃v,(∀w,A M H w→(loadVar t a).run P w= .ok v w)∧K (.val v) M H
  | _=>False
def OP (t:TypeId) (p v:SV) (K:F7):Prop:=match bB.find T t with
 | none=>False
 | some d=>match p with
  | .ptr i g off=>match M.find i with
   | none=>False
   | some kb=>match d.agg with
    | false=> ∃cs,vf kb.cs off v=some cs∧kb.g=g∧v.den.oneCell'=true∧Jp M i cs fun M'=>K (.val undef) M' H
    | true=>match v with
     | .val (.agg ⟨l⟩)=>l.length=d.size∧d₃ (off + d.size) kb.cs.length=true∧kb.g=g∧l.all (·.oneCell')=true∧Jp M i (Jr kb.cs off l d.size) fun M'=>K (.val undef) M' H
     | _=>False
  | .val (.pointer (some ⟨b,off,none⟩))=>match d.agg with
   | false=> ∃i kb,M.find i=some kb∧kb.g=b∧∃cs,vf kb.cs off v=some cs∧v.den.oneCell'=true∧Jp M i cs fun M'=>K (.val undef) M' H
   | true=>False
  | _=>False
def LN (t:TypeId) (x ix:SV) (K:F7):Prop:=match bB.find T t with
 | some (.slice _ es)=>match x,ix with
  | .val (.slice A len _), .val (.int _ n)=> ∃b o k:Nat,A=some ⟨b,o,none⟩∧n=(k:Int)∧k < len∧K (.val (.pointer (some ⟨b,o + k * es,none⟩))) M H
  | _,_=>False
 | some (.arr len _ es)=>match x,ix with
  | .ptr i g off, .val (.int _ n)=> ∃k:Nat,n=(k:Int)∧k < len∧K (.ptr i g (off + k * es)) M H
  | .val (.pointer (some ⟨b,off,none⟩)), .val (.int _ n)=> ∃k:Nat,n=(k:Int)∧k < len∧K (.val (.pointer (some ⟨b,off + k * es,none⟩))) M H
  | _,_=>False
 | _=>False
def w5 (op:BinOp) (k:IntKind) (m n:Int) (K:Value→Prop):Prop:=match op with
 | .add=> ∃r,k.wrap (m + n)=r∧K (.int k r)
 | .sub=> ∃r,k.wrap (m - n)=r∧K (.int k r)
 | .mul=> ∃r,k.wrap (m * n)=r∧K (.int k r)
 | .quo=>n≠0∧∃r,k.wrap (m.tdiv n)=r∧K (.int k r)
 | .rem=>n≠0∧∃r,m.tmod n=r∧K (.int k r)
 | .eql=>K (.bool (m == n))
 | .neq=>K (.bool (m !=n))
 | .lss=>K (.bool (decide (m < n)))
 | .leq=>K (.bool (decide (m≤n)))
 | .gtr=>K (.bool (decide (n < m)))
 | .geq=>K (.bool (decide (n≤m)))
 | .shl=>0≤n∧∃r,k.wrap (m * 2 ^ (min n.toNat k.bits))=r∧K (.int k r)
 | .shr=>0≤n∧∃r,m.fdiv (2 ^ (min n.toNat k.bits))=r∧K (.int k r)
 | .and=> ∃r,k.wrap (BitVec.ofInt k.bits m &&& BitVec.ofInt k.bits n).toNat=r∧K (.int k r)
 | .or=> ∃r,k.wrap (BitVec.ofInt k.bits m ||| BitVec.ofInt k.bits n).toNat=r∧K (.int k r)
 | .xor=> ∃r,k.wrap (BitVec.ofInt k.bits m ^^^ BitVec.ofInt k.bits n).toNat=r∧K (.int k r)
 | .andNot=> ∃r,k.wrap (BitVec.ofInt k.bits m &&& ~~~BitVec.ofInt k.bits n).toNat=r∧K (.int k r)
def w6 (op:BinOp) (s t:ByteArray) (K:Value→Prop):Prop:=match op with
 | .add=>s.size + t.size≤9223372036854775807∧K (.string (s ++ t))
 | .eql=>K (.bool (s.toList == t.toList))
 | .neq=>K (.bool (!(s.toList == t.toList)))
 | .lss=>K (.bool (Op.bytesLess s.toList t.toList))
 | .leq=>K (.bool (Op.bytesLess s.toList t.toList || s.toList == t.toList))
 | .gtr=>K (.bool (!(Op.bytesLess s.toList t.toList || s.toList == t.toList)))
 | .geq=>K (.bool (!Op.bytesLess s.toList t.toList))
 | _=>False
def ss (op:BinOp) (s t:Bool) (K:Value→Prop):Prop:=match op with
 | .eql=>K (.bool (s == t))
 | .neq=>K (.bool (s !=t))
 | _=>False
def DX:IntKind→Nat
 | .i8=>0 | .i16=>1 | .i32=>2 | .i64=>3 | .u8=>4 | .u16=>5 | .u32=>6 | .u64=>7
theorem Ct {k j:IntKind} (h:a₂ (DX k) (DX j)=true):k=j:=by
 cases k <;> cases j <;> first | rfl | cases h
def oJ:BinOp→Bool
 | .shl | .shr=>true
 | _=>false
def jN (t:TypeId) (yo:Operand) (x y:SV):Option Bool:=match y,bB.find T t with
 | .val (.pointer none),some .ptr=>match x with
  | .ptr _ _ _=>some false
  | .val (.pointer none)=>some true
  | .val (.pointer (some _))=>some false
  | _=>none
 | .val .nilIface,some .iface=>match yo with
  | .const _=>match x with
   | .val .nilIface=>some true
   | .val (.iface _ _)=>some false
   | _=>none
  | _=>none
 | .val (.slice none _ _),some (.slice _ _)=>match x with
  | .val (.slice none _ _)=>some true
  | .val (.slice (some _) _ _)=>some false
  | _=>none
 | _,_=>none
def w7 (t:TypeId) (parts:List (Nat×Value)) (K:F7):Prop:=
 match cQ T 9 t [],w4 T t with
 | some z,some ns=>match a₂ z.length ns.sum,jD (lA ns (z.map SV.den)) parts with
  | true,some segs=>oI ns parts∧K (.val (.agg (wZ segs).toArray)) M H
  | _,_=>False
 | _,_=>False
def rZ:Nat→List SV→List SV
 | 0,_=> []
 | n + 1,z=>z ++ rZ n z
end
end
section
theorem den_val (v:Value):(SV.val v).den=v:=rfl
section
variable {P:Program} {T:bB} {E:Nr} {M:F6} {H:Jn} {K:F7} {N:Nat} {a:Act} {w:World}
theorem AY {op:BinOp} {k k':IntKind} {m n:Int} {t:TypeId} {xo yo:Operand} {K':Value→Prop} (hk:(oJ op || a₂ (DX k) (DX k'))=true) (h:w5 op k m n K') :
  ∃v:Value,(∀w,(do eqGuard op t xo yo (.int k m) (.int k' n);binOp op t (.int k m) (.int k' n):Sem Value).run P w= .ok v w)∧K' v:=by
 have hg: ∀w,(eqGuard op t xo yo (.int k m) (.int k' n)).run P w= .ok () w:=by
  intro w;cases op <;> rfl
 cases op <;> simp only [oJ,Bool.false_or,Bool.true_or] at hk <;> first | (have hk:=Ct hk;subst hk) | skip
 all_goals simp only [w5] at h
 case quo=>obtain ⟨h0,r,rfl,h⟩:=h;exact⟨_,fun w=>by simp [hg,binOp,Op.intDiv,h0],h⟩
 case rem=>obtain ⟨h0,r,rfl,h⟩:=h;exact⟨_,fun w=>by simp [hg,binOp,Op.intDiv,h0],h⟩
 case shl=>obtain ⟨h0,r,rfl,h⟩:=h;exact⟨_,fun w=>by simp [hg,binOp,Op.shift,show ¬ n < 0 by omega],h⟩
 case shr=>obtain ⟨h0,r,rfl,h⟩:=h;exact⟨_,fun w=>by simp [hg,binOp,Op.shift,show ¬ n < 0 by omega],h⟩
 all_goals first
  | (obtain⟨r,rfl,h⟩:=h;exact⟨_,fun w=>by simp [hg,binOp,Op.intArith,Op.intBits],h⟩)
  | exact⟨_,fun w=>by simp [hg,binOp,Op.intCmp],h⟩
theorem AZ {op:BinOp} {x y:ByteArray} {t:TypeId} {xo yo:Operand} {K':Value→Prop} (h:w6 op x y K') :
  ∃v:Value,(∀w,(do eqGuard op t xo yo (.string x) (.string y);binOp op t (.string x) (.string y):Sem Value).run P w= .ok v w)∧K' v:=by
 have hg: ∀w,(eqGuard op t xo yo (.string x) (.string y)).run P w= .ok () w:=by
  intro w;cases op <;> rfl
 cases op <;> simp only [w6] at h
 case add=>
  obtain⟨h0,h⟩:=h
  have hle: ¬ ((x.size + y.size:Nat):Int) > IntKind.i64.max:=by
   have:IntKind.i64.max=9223372036854775807:=by decide
   omega
  exact⟨_,fun w=>by simp [hg,binOp,Op.stringOp] at hle ⊢;omega,h⟩
 all_goals first
  | exact⟨_,fun w=>by simp [hg,binOp,Op.stringOp],h⟩
  | exact h.elim
theorem yy {op:BinOp} {x y:Bool} {t:TypeId} {xo yo:Operand} {K':Value→Prop} (ht:P.underlying t=some .bool) (h:ss op x y K') :
  ∃v:Value,(∀w,(do eqGuard op t xo yo (.bool x) (.bool y);binOp op t (.bool x) (.bool y):Sem Value).run P w= .ok v w)∧K' v:=by
 have hg: ∀w,(eqGuard op t xo yo (.bool x) (.bool y)).run P w= .ok () w:=by
  intro w;cases op <;> rfl
 cases op <;> simp only [ss] at h <;> first
  | exact⟨_,fun w=>by simp [hg,binOp,run_equal_bool w t x y ht,bne],h⟩
  | exact h.elim
theorem Cu {t:TypeId} {xo yo:Operand} {u v:Value} {b:Bool} (h: ∀d,(Op.equalIn (d + 1) t u v).run P w= .ok b w) (hg: ∀op,(eqGuard op t xo yo u v).run P w= .ok () w)
  (h1:binOp .eql t u v=(do pure (.bool (← Op.equal t u v)))) (h2:binOp .neq t u v=(do pure (.bool (!(← Op.equal t u v))))) :
  (do eqGuard .eql t xo yo u v;binOp .eql t u v:Sem Value).run P w= .ok (.bool b) w∧(do eqGuard .neq t xo yo u v;binOp .neq t u v:Sem Value).run P w= .ok (.bool (!b)) w:=by
 have he:(Op.equal t u v).run P w= .ok b w:=h 9999
 constructor
 ·rw [Sem.run_bind,hg,Result.andThen_ok,h1,Sem.run_bind,he];rfl
 ·rw [Sem.run_bind,hg,Result.andThen_ok,h2,Sem.run_bind,he];rfl
theorem sN (hT:cB P T) {t:TypeId} {xo yo:Operand} {x y:SV} {b:Bool} (h:jN T t yo x y=some b) (w:World) :
  (do eqGuard .eql t xo yo x.den y.den;binOp .eql t x.den y.den:Sem Value).run P w= .ok (.bool b) w∧(do eqGuard .neq t xo yo x.den y.den;binOp .neq t x.den y.den:Sem Value).run P w= .ok (.bool (!b)) w:=by
 unfold jN at h
 split at h
 ·rename_i hd
  have hu:(∃e,P.underlying t=some (.pointer e))∨P.underlying t=some .unsafePointer:=by
   have hf:=hT.fits hd
   unfold TD.fitsB at hf
   simp only [a₁] at hf
   obtain⟨_,hf⟩:=hf
   cases hu:P.underlying t with
   | none=>simp [hu] at hf
   | some d=>cases d <;> simp_all
  rcases hu with ⟨e,hu⟩ | hu
  ·split at h <;> first | (cases h;done) | (injection h with h;subst h;exact Cu (fun d=>by simp [Op.equalIn,run_underlying hu,SV.den]) (fun op=>by cases op <;> simp [eqGuard,SV.den]) rfl rfl)
  ·split at h <;> first | (cases h;done) | (injection h with h;subst h;exact Cu (fun d=>by simp [Op.equalIn,run_underlying hu,SV.den,samePointer]) (fun op=>by cases op <;> simp [eqGuard,SV.den]) rfl rfl)
 ·rename_i hd
  have hu: ∃e,P.underlying t=some (.interface e):=by
   have hf:=hT.fits hd
   unfold TD.fitsB at hf
   simp only [a₁] at hf
   obtain⟨_,hf⟩:=hf
   cases hu:P.underlying t with
   | none=>simp [hu] at hf
   | some d=>cases d <;> simp_all
  obtain⟨e,hu⟩:=hu
  split at h
  ·split at h <;> first | (cases h;done) | (injection h with h;subst h;exact Cu (fun d=>by simp [Op.equalIn,run_underlying hu,SV.den]) (fun op=>by cases op <;> simp [eqGuard,SV.den]) rfl rfl)
  ·cases h
 ·rename_i hd
  have hu:=(TD.fits_slice (hT.fits hd)).1
  split at h <;> first | (cases h;done) | (injection h with h;subst h;exact Cu (fun d=>by simp [Op.equalIn,run_underlying hu,SV.den]) (fun op=>by cases op <;> simp [eqGuard,SV.den]) rfl rfl)
 ·cases h
theorem lG {j:IntKind} {n y:Nat} {code:BoundsCode} (h:n≤y) (w:World):(Instr.sliceBound (.int j (n:Int)) y code).run P w= .ok n w:=by
 have h0:(0:Int)≤(n:Int)∧(n:Int)≤(y:Int):=⟨om,om⟩;simp only [Instr.sliceBound,asIntOf,Sem.run_bind,Sem.run_pure,Result.andThen_ok,h0,and_self,if_true,d₁]
theorem ek {b:Bool} {len cap l h:Nat} {lo hi:Option Value} (hlo:lo=none∧l=0∨∃j,lo=some (.int j l)) (hhi:hi=none∧h=len∨∃j,hi=some (.int j h)) (h1:l≤h) (h2:h≤cap) (w:World) :
  (Instr.sliceBounds b len cap lo hi none).run P w= .ok (l,h,cap) w:=by
 rcases hhi with ⟨rfl,rfl⟩ | ⟨j,rfl⟩ <;> rcases hlo with ⟨rfl,rfl⟩ | ⟨j',rfl⟩ <;>
  simp [Instr.sliceBounds,lG h1,lG h2]
theorem flat_app (l r:List Value):wZ.app l r=l ++ r:=by
 induction l with
 | nil=>rfl
 | cons x l ih=>simp [wZ.app,ih]
theorem Cv (ls:List (List Value)):wZ ls=ls.flatten:=by
 induction ls with
 | nil=>rfl
 | cons l ls ih=>simp [wZ,flat_app,ih]
theorem cutBy_tk (n:Nat) (l:List Value):lA.tk n l=l.take n:=by
 induction n generalizing l with
 | zero=>cases l <;> rfl
 | succ n ih=>cases l <;> simp [lA.tk,ih]
theorem cutBy_dp (n:Nat) (l:List Value):lA.dp n l=l.drop n:=by
 induction n generalizing l with
 | zero=>cases l <;> rfl
 | succ n ih=>cases l <;> simp [lA.dp,ih]
theorem nT: ∀(ns:List Nat) (z:List Value),z.length=ns.sum→(lA ns z).flatten=z∧(lA ns z).map a₈=ns
 | [],z,h=>by simp at h;subst h;simp [lA]
 | n :: ns,z,h=>by
  simp at h
  obtain⟨h1,h2⟩:=nT ns (z.drop n) (by simp;omega)
  simp only [lA,cutBy_tk,cutBy_dp,b₀,h1,c₆,e₅,h2,a₇,true_and]
  congr 1
  omega
theorem rD: ∀(segs:List (List Value)) (i:Nat) (c:List Value) (s:List Value),segs[i]? =some s→c.length=s.length→
  (segs.set i c).flatten=segs.flatten.take ((segs.map a₈).take i).sum ++ c ++ segs.flatten.drop (((segs.map a₈).take i).sum + c.length)
 | [],i,c,s,h,_=>by simp at h
 | l :: ls,0,c,s,h,hc=>by
  simp at h;subst h
  simp [hc]
 | l :: ls,i + 1,c,s,h,hc=>by
  simp at h
  have ih:=rD ls i c s h hc
  simp only [g₆,b₀,ih,e₅,d₉,List.sum_cons,List.take_append,List.drop_append]
  have e1:l.take (l.length + ((ls.map a₈).take i).sum)=l:=e₄ om
  have e2:l.drop (l.length + ((ls.map a₈).take i).sum + c.length)= [] :=List.drop_of_length_le om
  rw [e1,e2]
  simp [show l.length + ((ls.map a₈).take i).sum - l.length=((ls.map a₈).take i).sum by omega,show l.length + ((ls.map a₈).take i).sum + c.length - l.length=((ls.map a₈).take i).sum + c.length by omega]
theorem rE (off:Nat): ∀(vs:List Value) (j:Nat) (cs:Array Value),off + j + vs.length≤cs.size→
  (vs.zipIdx j).foldl (fun cs (c,j)=>cs.setIfInBounds (off + j) c) cs=(cs.toList.take (off + j) ++ vs ++ cs.toList.drop (off + j + vs.length)).toArray
 | [],j,cs,_=>by simp
 | v :: vs,j,cs,h=>by
  simp only [List.zipIdx_cons,List.foldl_cons]
  rw [rE off vs (j + 1) _ (by simp at h ⊢;omega)]
  simp at h
  congr 1
  apply d₂
  intro k
  simp only [Array.toList_setIfInBounds,g₀,a₇,List.length_set,Array.length_toList,c₄,e₃,c₅,a₅,h₃]
  by_cases h1:k < off + j
  ·simp [h1,show k < off + (j + 1) by omega,show min (off + (j + 1)) cs.size=off + (j + 1) by omega,show min (off + j) cs.size=off + j by omega,show ¬ off + j=k by omega,show k < off + (j + 1) + vs.length by omega,show k < off + j + (vs.length + 1) by omega]
  ·by_cases h2:k=off + j
   ·subst h2
    simp [show min (off + (j + 1)) cs.size=off + (j + 1) by omega,show min (off + j) cs.size=off + j by omega,show off + j < off + (j + 1) by omega,show off + j < cs.size by omega,show off + j < off + (j + 1) + vs.length by omega]
   ·simp only [show min (off + (j + 1)) cs.size=off + (j + 1) by omega,show min (off + j) cs.size=off + j by omega,h1,if_false,show ¬ k < off + (j + 1) by omega]
    by_cases h3:k < off + (j + 1) + vs.length
    ·simp [h3,show k < off + j + (vs.length + 1) by omega,show k - (off + j)=(k - (off + (j + 1))) + 1 by omega]
    ·simp [h3,show ¬ k < off + j + (vs.length + 1) by omega,
      show off + (j + 1) + vs.length + (k - (off + (j + 1) + vs.length))=off + j + (vs.length + 1) + (k - (off + j + (vs.length + 1))) by omega]
     intro h'
     omega
theorem F8 {α:Type} {l:List α} {i:Nat} {x:α} (h:l[i]? =some x):l.set i x=l:=by
 apply d₂;intro k;rw [e₃];by_cases e:i=k
 ·subst e;obtain⟨h1,h2⟩:=a₄.1 h;simp [h1,h2]
 ·simp [e]
theorem qs (v:Value):v.cells.toList=jg v:=by
 cases v <;> rfl
theorem qt {place:Nat→Option (Nat×Nat)} {ns:List Nat} (hp: ∀i n,ns[i]? =some n→place i=some ((ns.take i).sum,n)): ∀(parts:List (Nat×Value)) (segs segs':List (List Value)),
  segs.map a₈=ns→jD segs parts=some segs'→oI ns parts→Instr.fill place segs.flatten.toArray parts=some segs'.flatten.toArray
 | [],segs,segs',_,h,_=>by simp [jD] at h;subst h;simp [Instr.fill]
 | (i,v) :: parts,segs,segs',hns,h,hf=>by
  simp only [jD] at h
  split at h
  ·rename_i s1 hs1
   obtain⟨hlt,rfl⟩:=Cs hs1
   obtain⟨hn,hf⟩:=hf
   rw [sM] at hn
   have hpl:=hp i _ hn
   have hseg:segs[i]? =some (segs[i]'hlt):=a₃ hlt
   have hlen:(jg v).length=(segs[i]'hlt).length:=by
    rw [← hns,b₁,hseg] at hn
    simpa using hn.symm
   have hsz:v.cells.size=(jg v).length:=by rw [← qs,Array.length_toList]
   have hsp:=rD segs i (jg v) _ hseg hlen
   have hbound:(ns.take i).sum + (jg v).length≤segs.flatten.length:=by
    rw [e₇,hns]
    have h1:ns=ns.take i ++ ns.drop i:=(c₆ i ns).symm
    have h2:ns.drop i=(jg v).length :: ns.drop (i + 1):=by
     have hi:=(a₄.1 hn)
     obtain⟨hi1,hi2⟩:=hi
     rw [f₁ hi1,hi2]
    have h3:ns.sum=(ns.take i).sum + (ns.drop i).sum:=by rw [← List.sum_append,c₆]
    rw [h3,h2,List.sum_cons]
    omega
   have ih:=qt hp parts (segs.set i (jg v)) segs' (by rw [List.map_set,hns,F8 hn]) h hf
   simp only [Instr.fill,hpl,hsz,ne_eq,not_true_eq_false,decide_false,Bool.false_or,c₀]
   rw [if_neg (by rw [e₇] at hbound;simp [e₇];omega)]
   have hfold:=rE (ns.take i).sum v.cells.toList 0 segs.flatten.toArray (by rw [Array.length_toList,hsz];simpa using hbound)
   have hz:Array.foldl (fun cs (x:Value×Nat)=>cs.setIfInBounds ((ns.take i).sum + x.2) x.1) segs.flatten.toArray v.cells.zipIdx=(segs.set i (jg v)).flatten.toArray:=by
    rw [← Array.foldl_toList,Array.toList_zipIdx]
    refine Eq.trans hfold ?_
    rw [qs,hsp,hns]
    simp
   rw [show (Array.foldl (fun cs x=>match x with | (c,j)=>cs.setIfInBounds ((ns.take i).sum + j) c) segs.flatten.toArray v.cells.zipIdx)=_ from hz]
   exact ih
  ·cases h
structure Seat (P:Program) (T:bB) (ents:List FuncId):Prop where
 tab:cB P T
 enters: ∀f∈ents,∀args w,(callFunc f args).run P w= .ok (.enter f args) w
 mixed:P.follows .mixedOrders=true
theorem sO (hT:cB P T): ∀{fs:List (Nat×TypeId)} {ns:List Nat},oH T fs=some ns→fs.length=ns.length∧∀(i o t:Nat),fs[i]? =some (o,t)→∃n,ns[i]? =some n∧fU P t n=true
 | [],ns,h=>by simp [oH] at h;subst h;simp
 | (o,t) :: fs,ns,h=>by
  simp only [oH] at h
  split at h
  ·rename_i d hd
   split at h
   ·rename_i r hr
    obtain⟨h1,h2⟩:=sO hT hr
    injection h with h;subst h
    refine⟨by simp [h1],fun i o' t' hi=>?_⟩
    cases i with
    | zero=>simp at hi;obtain⟨rfl,rfl⟩:=hi;exact⟨_,rfl,TD.fits_size (hT.fits hd)⟩
    | succ i=>exact h2 i o' t' (by simpa using hi)
   ·cases h
  ·cases h
theorem sP {P:Program}: ∀{fs:List (Nat×TypeId)} {ns:List Nat} {b:Nat},sL P fs b=true→fs.length=ns.length→(∀(i o t:Nat),fs[i]? =some (o,t)→∃n,ns[i]? =some n∧fU P t n=true)→
  ∀(i o t:Nat),fs[i]? =some (o,t)→o=b + (ns.take i).sum
 | [],ns,b,_,_,_,i,o,t,hi=>by simp at hi
 | (o0,t0) :: fs,[],b,_,hl,_,i,o,t,hi=>by simp at hl
 | (o0,t0) :: fs,n0 :: ns,b,h,hl,hs,i,o,t,hi=>by
  simp only [sL,a₁,beq_iff_eq] at h
  obtain⟨h1,h2⟩:=h
  cases hinfo:P.info? t0 with
  | none=>simp [hinfo] at h2
  | some inf=>
   simp only [hinfo] at h2
   obtain⟨n,hn,hsz⟩:=hs 0 o0 t0 rfl
   simp at hn;subst hn
   have hn0:inf.size=n0:=by simpa [fU,hinfo] using hsz
   cases i with
   | zero=>simp at hi;obtain⟨rfl,rfl⟩:=hi;simp [h1]
   | succ i=>
    have:=sP h2 (by simpa using hl) (fun i o t hi=>by simpa using hs (i + 1) o t (by simpa using hi)) i o t (by simpa using hi)
    rw [this,hn0];simp;omega
theorem sQ {P:Program}: ∀{fs:List Field} {ns:List Nat},fs.length=ns.length→(∀(i:Nat) (f:Field),fs[i]? =some f→∃n,ns[i]? =some n∧fU P f.type n=true)→
  ∃pl,fs.mapM (fun f=>(P.info? f.type).map fun i=>(f.offset,i.size))=some pl∧pl=(fs.zip ns).map fun x=>(x.1.offset,x.2)
 | [],[],_,_=>⟨[],sm,rfl⟩
 | [],_ :: _,h,_=>by simp at h
 | _ :: _,[],h,_=>by simp at h
 | f :: fs,n :: ns,h,hs=>by
  obtain⟨pl,h1,h2⟩:=sQ (by simpa using h) (fun i f hi=>by simpa using hs (i + 1) f (by simpa using hi))
  obtain⟨n',hn,hsz⟩:=hs 0 f rfl
  simp at hn;subst hn
  unfold fU at hsz
  split at hsz
  ·rename_i inf hinf
   have hsz':inf.size=n:=by simpa using hsz
   exact⟨(f.offset,n) :: pl,by simp [hinf,h1,hsz'],by simp [h2]⟩
  ·cases hsz
theorem A2 (hT:cB P T) {t:TypeId} {parts:List (Nat×Value)} (h:w7 T M H t parts K): ∃v:SV,(∀w,A M H w→(Instr.build t parts.toArray).run P w= .ok v.den w)∧K v M H:=by
 unfold w7 at h;split at h
 ·rename_i z ns hz hns;split at h
  ·rename_i segs hlen hsegs;have hlen:=a₀ hlen;obtain⟨hfit,hK⟩:=h;refine⟨.val (.agg (wZ segs).toArray),fun w _=>?_,hK⟩;obtain⟨zv,hzv,hzc⟩:=hT.zero hz w;have hzi: ∃it,P.info? t=some it∧it.zero=some zv:=by
    cases hi:P.info? t with
    | none=>simp [zeroValue,typeInfo,hi,stuck] at hzv
    | some it=>
     cases hv:it.zero with
     | none=>simp [zeroValue,typeInfo,hi,hv,unsupported] at hzv
     | some v=>simp [zeroValue,typeInfo,hi,hv] at hzv;subst hzv;exact⟨it,rfl,hv⟩
   obtain⟨it,hit,hitz⟩:=hzi;have hzcells:zv.cells=(z.map SV.den).toArray:=by rw [← hzc]
   have core: ∀(place:Nat→Option (Nat×Nat)),(∀i n,ns[i]? =some n→place i=some ((ns.take i).sum,n))→
     Instr.fill place (z.map SV.den).toArray parts=some (wZ segs).toArray:=by
    intro place hp
    obtain⟨hc1,hc2⟩:=nT ns (z.map SV.den) (by simpa using hlen)
    have:=qt hp parts _ segs hc2 hsegs hfit
    rw [hc1] at this
    rw [this,Cv]
   refine run_build w t parts.toArray _ ?_;unfold w4 at hns;split at hns
   ·rename_i fs sz hd;obtain⟨fields,hu,h3,_,h5⟩:=TD.fits_struct (hT.fits hd);obtain⟨h6,h7⟩:=sO hT hns;have hoff:=sP h5 h6 h7;have hfield: ∀(i:Nat) (f:Field),fields.toList[i]? =some f→fs[i]? =some (f.offset,f.type):=by
     intro i f hi;rw [← h3,b₁,hi];rfl
    obtain⟨pl,h8,h9⟩:=sQ (P:=P) (fs:=fields.toList) (ns:=ns) (by rw [← h6,← h3,c₁]) (fun i f hi=>h7 i _ _ (hfield i f hi));simp only [Program.built,hit,hu,hitz,h8,hzcells];refine core _ fun i n hn=>?_
    have hi:i < fields.toList.length:=by
     have:=(a₄.1 hn).1;rw [← h6,← h3,c₁] at this;exact this
    have hf:=a₃ hi;have ho:=hoff i _ _ (hfield i _ hf);subst h9;have hz2:(fields.toList.zip ns)[i]? =some (fields.toList[i],n):=List.getElem?_zip_eq_some.2 ⟨hf,hn⟩;simp only [List.getElem?_toArray,b₁,hz2,Option.map_some];rw [ho];simp
   ·rename_i n e es hd;obtain⟨hu,hs⟩:=TD.fits_arr (hT.fits hd);injection hns with hns
    subst hns;unfold fU at hs;split at hs
    ·rename_i ie hie;have hse:ie.size=es:=by simpa using hs
     simp only [Program.built,hit,hu,hitz,hie,hzcells];refine core _ fun i m hm=>?_
     rw [f₇] at hm;split at hm
     ·injection hm with hm
      subst hm;rename_i hin;rw [g₃,f₉,hse,b₉ om]
     ·cases hm
    ·cases hs
   ·cases hns
  ·exact h.elim
 ·exact h.elim
theorem rF (n:Nat) (z:List SV):(rZ n z).length=n * z.length:=by
 induction n with
 | zero=>simp [rZ]
 | succ n ih=>simp [rZ,ih,f₄,Nat.add_comm]
theorem yz (z:List SV) (hz:0 < z.length): ∀(n k:Nat),k < n * z.length→(rZ n z)[k]? =z[k % z.length]?
 | 0,k,h=>by omega
 | n + 1,k,h=>by
  simp only [rZ]
  by_cases hk:k < z.length
  ·rw [b₂ hk,h₄ hk]
  ·rw [b₈ om,yz z hz n (k - z.length) (by rw [f₄] at h;omega)]
   congr 1
   exact(Nat.mod_eq_sub_mod om).symm
theorem sR {n es:Nat} {z:List SV} {zc:Array Value} (hz:zc=(z.map SV.den).toArray) (hl:z.length=es) (h0:0 < es) :
  ((Array.range (n * es)).map (zc[· % zc.size]!))=((rZ n z).map SV.den).toArray:=by
 subst hz
 apply Array.ext
 ·simp [rF,hl]
 ·intro k h1 h2
  have hk:k < n * es:=by simpa using h1
  have hlt:k % z.length < z.length:=Nat.mod_lt _ om
  have hg:=yz z om n k (by rw [hl];exact hk)
  simp only [Array.getElem_map,Array.getElem_range,c₀,c₁,List.getElem_toArray]
  rw [a₃ (by rw [rF,hl];exact hk),a₃ hlt] at hg
  injection hg with hg
  rw [List.getElem_map,hg,getElem!_pos _ _ (by simpa using hlt)]
  simp
theorem Pp (hT:cB P T) {t:TypeId} {d:TD} (hd:bB.find T t=some d) (ha:d.agg=false) {w w':World} {b o p j:Nat} {cs:List Value} {v:Value} (hr:w.rangeAt b o cs) (hj:cs[j]? =some v) (hp:p=o + j) (hb:Below w.heap.size w w') :
  (loadVar t ⟨b,p,none⟩).run P w'= .ok v w':=by
 subst hp
 have hr':=oG (w':=w') hr (fun h=>hb.block b h)
 have hc:=hr' j v hj
 simp [loadVar,TD.fits_agg (hT.fits hd),ha,load,hc,Sem.run,Sem.run_bind]
theorem Pq (hT:cB P T) {t:TypeId} {d:TD} (hd:bB.find T t=some d) (ha:d.agg=true) {w w':World} {b o:Nat} {cs:List Value} (hl:cs.length=d.size) (hr:w.rangeAt b o cs) (hb:Below w.heap.size w w') :
  (loadVar t ⟨b,o,none⟩).run P w'= .ok (.agg ⟨cs⟩) w':=by
 have hr':=oG (w':=w') hr (fun h=>hb.block b h)
 have hl2:(loadCells ⟨b,o,none⟩ cs.length).run P w'= .ok cs.toArray w':=
  run_loadCells_list (P:=P) w' ⟨b,o,none⟩ _ (fun j v hv=>by rw [Addr.add_mid];exact hr' j v hv)
 rw [hl] at hl2
 simp only [loadVar,Sem.run_bind,Sem.run_pure,Result.andThen_ok,TD.fits_agg (hT.fits hd),ha,if_true,bD (TD.fits_size (hT.fits hd)),hl2]
end
end
section
inductive MV where
 | int (k:IntKind) (n:Int)
 | bool (b:Bool)
 | str (s:List UInt8)
 | nilp
 | ptr (c es k fo:Nat) (path:List Nat)
 | gp (g off:Nat)
 | ep (v:MV) (fo:Nat) (path:List Nat)
 | sl (n:Nat) (l:List MV)
 | nils
 | ms (c es off n:Nat)
 | fn (f:FuncId) (caps:List MV)
 | nilf
 | nili
 | ifc (t:TypeId) (v:MV)
 | st (l:List MV)
 | arr (n es:Nat) (l:List MV)
 | tup (l:List MV)
 | mp (c:Nat)
 | mpv (ks vs:List MV)
 | undef
 deriving Inhabited
mutual
def MV.size:MV→Nat
 | .st l=>MV.sizes l
 | .arr n es _=>n * es
 | .mpv .. =>0
 | _=>1
def MV.sizes:List MV→Nat
 | [] =>0
 | m :: l=>MV.size m + MV.sizes l
end
def MV.isAgg:MV→Bool
 | .st _=>true
 | .arr .. =>true
 | _=>false
mutual
def MV.idFree:MV→Bool
 | .ptr .. =>false
 | .ms .. =>false
 | .fn _ l=>MV.idFrees l
 | .ifc _ v=>MV.idFree v
 | .st l=>MV.idFrees l
 | .tup _=>false
 | .mp _=>false
 | .mpv .. =>false
 | .undef=>false
 | _=>true
def MV.idFrees:List MV→Bool
 | [] =>true
 | m :: l=>MV.idFree m && MV.idFrees l
end
def valM (m:MV) (cs:List Value):Value:=if m.isAgg then .agg ⟨cs⟩ else cs.headD undef
abbrev fV:=Nat→Option Nat
def noAdr:fV:=fun _=>none
abbrev bT:=Nat→Nat→Prop
inductive cS (w:World) (P:bT):fV→MV→List Value→Prop where
 | int {adr k n}:cS w P adr (.int k n) [.int k n]
 | bool {adr b}:cS w P adr (.bool b) [.bool b]
 | str {adr s}:cS w P adr (.str s) [.string ⟨s.toArray⟩]
 | nilp {adr}:cS w P adr .nilp [.pointer none]
 | ptr {adr c es k fo path} (g:Nat) (h:adr c=some g):cS w P adr (.ptr c es k fo path) [.pointer (some ⟨g,k * es + fo,none⟩)]
 | gp {adr g off}:cS w P adr (.gp g off) [.pointer (some ⟨g,off,none⟩)]
 | ep {adr v fo path} (b o:Nat) (vs:List Value) (hc: ∀(j:Nat) u,vs[j]? =some u→w.cell? ⟨b,o + j,none⟩=some u∧P b (o + j)) (hr:cS w P noAdr v vs):cS w P adr (.ep v fo path) [.pointer (some ⟨b,o + fo,none⟩)]
 | sl {adr n l} (A:Option Addr) (cap es:Nat) (parts:List (List Value)) (hl:l.length=n) (hp:parts.length=n) (hes: ∀p∈parts,p.length=es) (hnn:A=none→n=0∧cap=0) (hcap:n≤cap)
   (hc:n≠0→∃b o,A=some ⟨b,o,none⟩∧∀(j:Nat) u,parts.flatten[j]? =some u→w.cell? ⟨b,o + j,none⟩=some u∧P b (o + j))
   (hr: ∀(j:Nat) m p,l[j]? =some m→parts[j]? =some p→cS w P noAdr m p):cS w P adr (.sl n l) [.slice A n cap]
 | nils {adr}:cS w P adr .nils [.slice none 0 0]
 | ms0 {adr c es}:cS w P adr (.ms c es 0 0) [.slice none 0 0]
 | ms {adr c es off n} (g o cap:Nat) (h:adr c=some g) (ho:n≠0∨off=0→o=off * es) (hcap:n≤cap) (hcap2:cap≤maxLen) (hsz: ∃cur ty,w.heap[g]? =some (.cells cur ty (0,0))∧(off=0→cur.size=cap * es)) :
   cS w P adr (.ms c es off n) [.slice (some ⟨g,o,none⟩) n cap]
 | fn {adr f caps} (parts:List (List Value)) (hp:parts.length=caps.length) (hr: ∀(j:Nat) m p,caps[j]? =some m→parts[j]? =some p→cS w P adr m p):cS w P adr (.fn f caps) [.func (.func f) #[] (List.zipWith valM caps parts).toArray]
 | nilf {adr}:cS w P adr .nilf [.nilFunc]
 | mp {adr c} (g:Nat) (h:adr c=some g):cS w P adr (.mp c) [.map (some g)]
 | nili {adr}:cS w P adr .nili [.nilIface]
 | ifc {adr t v} (cs:List Value) (hr:cS w P adr v cs):cS w P adr (.ifc t v) [.iface t (valM v cs)]
 | st {adr l} (parts:List (List Value)) (hp:parts.length=l.length) (hr: ∀(j:Nat) m p,l[j]? =some m→parts[j]? =some p→cS w P adr m p):cS w P adr (.st l) parts.flatten
 | arr {adr n es l} (parts:List (List Value)) (hl:l.length=n) (hp:parts.length=n) (hes: ∀p∈parts,p.length=es) (hr: ∀(j:Nat) m p,l[j]? =some m→parts[j]? =some p→cS w P noAdr m p):cS w P adr (.arr n es l) parts.flatten
inductive aK (w:World) (P:bT) (adr:fV):MV→Value→Prop where
 | val {m} (cs:List Value) (h:cS w P adr m cs):aK w P adr m (valM m cs)
 | undef:aK w P adr .undef undef
 | tup {l} (vs:List Value) (hl:vs.length=l.length) (h: ∀(j:Nat) m u,l[j]? =some m→vs[j]? =some u→∃cs,cS w P adr m cs∧u=valM m cs):aK w P adr (.tup l) (.tuple vs.toArray)
section
variable {w w':World} {P P':bT} {adr adr':fV} {m:MV} {vs:List Value}
structure bG (w w':World) (P P':bT) (adr adr':fV):Prop where
 prot: ∀b o,P b o→P' b o
 cell: ∀b o,P b o→w'.cell? ⟨b,o,none⟩=w.cell? ⟨b,o,none⟩
 num: ∀c g,adr c=some g→adr' c=some g
 size: ∀c g cur ty,adr c=some g→w.heap[g]? =some (.cells cur ty (0,0))→∃cur',w'.heap[g]? =some (.cells cur' ty (0,0))∧cur'.size=cur.size
theorem bG.refl (w:World) (P:bT) (adr:fV):bG w w P P adr adr:=⟨fun _ _ h=>h,fun _ _ _=>rfl,fun _ _ h=>h,fun _ _ cur _ _ h=>⟨cur,h,rfl⟩⟩
theorem bG.free (h:bG w w' P P' adr adr'):bG w w' P P' noAdr noAdr:=⟨h.prot,h.cell,fun _ _ h=>h,fun _ _ _ _ h=>nomatch h⟩
theorem bG.trans {w'':World} {P'':bT} {adr'':fV} (h:bG w w' P P' adr adr') (k:bG w' w'' P' P'' adr' adr''):bG w w'' P P'' adr adr'':=
 ⟨fun b o hp=>k.prot b o (h.prot b o hp),fun b o hp=>(k.cell b o (h.prot b o hp)).trans (h.cell b o hp),fun c g hc=>k.num c g (h.num c g hc),fun c g cur ty hc hw=>by
  obtain⟨cur1,h1,h2⟩:=h.size c g cur ty hc hw;obtain⟨cur2,h3,h4⟩:=k.size c g cur1 ty (h.num c g hc) h1;exact⟨cur2,h3,h4.trans h2⟩⟩
theorem cS.keep (h:cS w P adr m vs): ∀{adr':fV},bG w w' P P' adr adr'→cS w' P' adr' m vs:=by
 induction h with
 | int=>intro _ _;exact .int
 | bool=>intro _ _;exact .bool
 | str=>intro _ _;exact .str
 | nilp=>intro _ _;exact .nilp
 | ptr g h=>intro _ k;exact .ptr g (k.num _ _ h)
 | gp=>intro _ _;exact .gp
 | ep b o vs hc hr ih=>intro _ k;exact .ep b o vs (fun j u hj=>⟨(k.cell _ _ (hc j u hj).2).trans (hc j u hj).1,k.prot _ _ (hc j u hj).2⟩) (ih k.free)
 | sl A cap es parts hl hp hes hnn hcap hc hr ih=>
  intro _ k;refine .sl A cap es parts hl hp hes hnn hcap (fun hn=>?_) (fun j m p h1 h2=>ih j m p h1 h2 k.free);obtain⟨b,o,hA,hc⟩:=hc hn;exact⟨b,o,hA,fun j u hj=>⟨(k.cell _ _ (hc j u hj).2).trans (hc j u hj).1,k.prot _ _ (hc j u hj).2⟩⟩
 | nils=>intro _ _;exact .nils
 | ms0=>intro _ _;exact .ms0
 | ms g o cap h ho hcap hcap2 hsz=>
  intro _ k;obtain⟨cur,ty,hw,hs⟩:=hsz;obtain⟨cur',hw',hs'⟩:=k.size _ _ _ _ h hw;exact .ms g o cap (k.num _ _ h) ho hcap hcap2 ⟨cur',ty,hw',fun h0=>by rw [hs',hs h0]⟩
 | fn parts hp hr ih=>intro _ k;exact .fn parts hp fun j m p h1 h2=>ih j m p h1 h2 k
 | nilf=>intro _ _;exact .nilf
 | mp g h=>intro _ k;exact .mp g (k.num _ _ h)
 | nili=>intro _ _;exact .nili
 | ifc cs hr ih=>intro _ k;exact .ifc cs (ih k)
 | st parts hp hr ih=>intro _ k;exact .st parts hp fun j m p h1 h2=>ih j m p h1 h2 k
 | arr parts hl hp hes hr ih=>intro _ k;exact .arr parts hl hp hes fun j m p h1 h2=>ih j m p h1 h2 k.free
theorem aK.keep {v:Value} (h:aK w P adr m v) (k:bG w w' P P' adr adr'):aK w' P' adr' m v:=by
 cases h with
 | val cs h=>exact .val cs (h.keep k)
 | undef=>exact .undef
 | tup vs hl h=>exact .tup vs hl fun j m u h1 h2=>by obtain⟨cs,h3,h4⟩:=h j m u h1 h2;exact⟨cs,h3.keep k,h4⟩
theorem aR {es:Nat}: ∀{parts:List (List Value)},(∀p∈parts,p.length=es)→parts.flatten.length=parts.length * es
 | [],_=>by simp
 | p :: parts,h=>by
  rw [b₀,a₅,h p sm,aR fun q hq=>h q (by simp [hq]),h₃,f₄]
  omega
theorem yA: ∀{l:List MV} {parts:List (List Value)},parts.length=l.length→(∀(j:Nat) m p,l[j]? =some m→parts[j]? =some p→p.length=m.size)→parts.flatten.length=MV.sizes l
 | [],[],_,_=>rfl
 | m :: l,p :: parts,hl,h=>by
  rw [b₀,a₅,h 0 m p rfl rfl,yA (by simpa using hl) fun j m p h1 h2=>h (j + 1) m p h1 h2]
  rfl
 | [],_ :: _,h,_=>by simp at h
 | _ :: _,[],h,_=>by simp at h
theorem cS.size (h:cS w P adr m vs):vs.length=m.size:=by
 induction h with
 | st parts hp hr ih=>exact yA hp ih
 | arr parts hl hp hes hr ih=>rw [aR hes,hp];rfl
 | _=>rfl
theorem cS.scalar (h:cS w P adr m vs) (ha:m.isAgg=false): ∃v,vs= [v] :=by
 cases h <;> first | exact⟨_,rfl⟩ | cases ha
theorem kJ (h:cS w P adr m vs):(valM m vs).cells.toList=vs:=by
 unfold valM;cases ha:m.isAgg with
 | true=>rfl
 | false=>
  cases h <;> first | rfl | cases ha
theorem jE: ∀{l:List MV},MV.idFrees l=true→∀(j:Nat) m,l[j]? =some m→m.idFree=true
 | [],_,j,m,h=>by simp at h
 | x :: l,h,j,m,hj=>by
  have h:(x.idFree && MV.idFrees l)=true:=h
  rw [a₁] at h
  cases j with
  | zero=>simp at hj;subst hj;exact h.1
  | succ j=>exact jE h.2 j m (by simpa using hj)
theorem cS.free (h:cS w P adr m vs):m.idFree=true→cS w P noAdr m vs:=by
 induction h with
 | int=>intro _;exact .int
 | bool=>intro _;exact .bool
 | str=>intro _;exact .str
 | nilp=>intro _;exact .nilp
 | ptr g h=>intro h;cases h
 | gp=>intro _;exact .gp
 | ep b o vs hc hr ih=>intro _;exact .ep b o vs hc hr
 | sl A cap es parts hl hp hes hnn hcap hc hr ih=>intro _;exact .sl A cap es parts hl hp hes hnn hcap hc hr
 | nils=>intro _;exact .nils
 | ms0=>intro h;cases h
 | ms=>intro h;cases h
 | fn parts hp hr ih=>intro hf;exact .fn parts hp fun j m p h1 h2=>ih j m p h1 h2 (jE hf j m h1)
 | nilf=>intro _;exact .nilf
 | mp g h=>intro h;cases h
 | nili=>intro _;exact .nili
 | ifc cs hr ih=>intro hf;exact .ifc cs (ih hf)
 | st parts hp hr ih=>intro hf;exact .st parts hp fun j m p h1 h2=>ih j m p h1 h2 (jE hf j m h1)
 | arr parts hl hp hes hr ih=>intro _;exact .arr parts hl hp hes hr
theorem cS.ofNone (h:cS w P noAdr m vs):cS w P adr m vs:=h.keep ⟨fun _ _ h=>h,fun _ _ _=>rfl,fun _ _ h=>(nomatch h),fun _ _ _ _ h=>nomatch h⟩
theorem cS.one (h:cS w P adr m vs): ∀v∈vs,v.oneCell'=true:=by
 induction h with
 | st parts hp hr ih=>
  intro v hv;obtain⟨p,hp1,hv⟩:=f₅.1 hv;obtain⟨j,hj,rfl⟩:=d₅.1 hp1;exact ih j _ _ (a₃ om) (a₃ hj) v hv
 | arr parts hl hp hes hr ih=>
  intro v hv;obtain⟨p,hp1,hv⟩:=f₅.1 hv;obtain⟨j,hj,rfl⟩:=d₅.1 hp1;exact ih j _ _ (a₃ om) (a₃ hj) v hv
 | _=>intro v hv;simp at hv;subst hv;rfl
end
end
section
def bW:List MV→Nat→Option MV
 | [],_=>none
 | x :: _,0=>some x
 | _ :: l,n + 1=>bW l n
theorem bS: ∀(l:List MV) (n:Nat),bW l n=l[n]?
 | [],_=>by simp [bW]
 | x :: l,0=>rfl
 | x :: l,n + 1=>by simp [bW,bS l n]
def fa:List MV→Nat→Nat
 | [],_=>0
 | _,0=>0
 | m :: l,n + 1=>m.size + fa l n
def fc:MV→List Nat→Nat→Option MV
 | m,[],fo=>bif a₂ fo 0 then some m else none
 | .st l,i :: p,fo=>match bW l i with
  | some m=>bif d₃ (fa l i) fo then fc m p (fo - fa l i) else none
  | none=>none
 | .arr _ es l,i :: p,fo=>match bW l i with
  | some m=>bif d₃ (i * es) fo then fc m p (fo - i * es) else none
  | none=>none
 | _,_ :: _,_=>none
def setL:List MV→Nat→MV→List MV
 | [],_,_=> []
 | _ :: l,0,v=>v :: l
 | x :: l,n + 1,v=>x :: setL l n v
theorem setL_eq: ∀(l:List MV) (n:Nat) (v:MV),setL l n v=l.set n v
 | [],_,_=>by simp [setL]
 | x :: l,0,v=>rfl
 | x :: l,n + 1,v=>by simp [setL,setL_eq l n v]
def ff:MV→List Nat→Nat→MV→Option MV
 | m,[],fo,v=>bif a₂ fo 0 && a₂ v.size m.size then(match v.isAgg,m.isAgg with | true,true | false,false=>some v | _,_=>none) else none
 | .st l,i :: p,fo,v=>match bW l i with
  | some m=>bif d₃ (fa l i) fo then(match ff m p (fo - fa l i) v with | some m'=>some (.st (setL l i m')) | none=>none) else none
  | none=>none
 | .arr n es l,i :: p,fo,v=>match bW l i with
  | some m=>bif d₃ (i * es) fo && v.idFree then(match ff m p (fo - i * es) v with | some m'=>some (.arr n es (setL l i m')) | none=>none) else none
  | none=>none
 | _,_ :: _,_,_=>none
section
variable {w w':World} {P P':bT} {adr adr':fV} {m r v:MV} {vs cs:List Value}
theorem bU: ∀{parts:List (List Value)} {i:Nat} {p:List Value},parts[i]? =some p→parts.flatten=(parts.take i).flatten ++ p ++ (parts.drop (i + 1)).flatten
 | q :: parts,0,p,h=>by simp at h;subst h;simp
 | q :: parts,i + 1,p,h=>by
  have:=bU (parts:=parts) (i:=i) (p:=p) (by simpa using h)
  simp only [b₀,d₉,g₄]
  rw [this];simp
 | [],i,p,h=>by simp at h
theorem jF: ∀{parts:List (List Value)} {i:Nat} {p q:List Value},parts[i]? =some p→(parts.set i q).flatten=(parts.take i).flatten ++ q ++ (parts.drop (i + 1)).flatten
 | x :: parts,0,p,q,h=>by simp
 | x :: parts,i + 1,p,q,h=>by
  have:=jF (parts:=parts) (i:=i) (p:=p) (q:=q) (by simpa using h)
  simp only [g₆,b₀,d₉,g₄]
  rw [this];simp
 | [],i,p,q,h=>by simp at h
theorem kK: ∀{l:List MV} {parts:List (List Value)} {i:Nat},parts.length=l.length→(∀(j:Nat) m p,l[j]? =some m→parts[j]? =some p→p.length=m.size)→(parts.take i).flatten.length=fa l i
 | [],[],i,_,_=>by cases i <;> rfl
 | m :: l,p :: parts,0,_,_=>rfl
 | m :: l,p :: parts,i + 1,hl,h=>by
  rw [d₉,b₀,a₅,h 0 m p rfl rfl,kK (by simpa using hl) fun j m p h1 h2=>h (j + 1) m p h1 h2]
  rfl
 | [],_ :: _,_,h,_=>by simp at h
 | _ :: _,[],_,h,_=>by simp at h
theorem cZ {α β:Type} {l:List α} {parts:List β} (h:parts.length=l.length) {i:Nat} {m:α} (hm:l[i]? =some m): ∃p,parts[i]? =some p:=by
 have:=(a₄.1 hm).1;exact⟨parts[i]'om,a₃ om⟩
theorem mQ: ∀{path:List Nat} {fo:Nat} {m:MV} {vs:List Value} {adr:fV},cS w P adr m vs→fc m path fo=some r→∃pre cs post,vs=pre ++ cs ++ post∧pre.length=fo∧cS w P adr r cs
 | [],fo,m,vs,adr,h,hg=>by
  have hg:(bif a₂ fo 0 then some m else none)=some r:=by cases m <;> exact hg
  cases hb:a₂ fo 0 with
  | false=>rw [hb] at hg;cases hg
  | true=>
   rw [hb] at hg
   have:=a₀ hb
   injection hg with hg
   subst hg;subst this
   exact⟨[],vs,[],sm,rfl,h⟩
 | i :: p,fo,m,vs,adr,h,hg=>by
  cases h with
  | st parts hp hr=>
   rename_i l
   simp only [fc] at hg
   split at hg
   ·rename_i m' hm
    rw [bS] at hm
    cases hb:d₃ (fa l i) fo with
    | false=>rw [hb] at hg;cases hg
    | true=>
     rw [hb] at hg
     have hle:=c₇ hb
     obtain⟨q,hq⟩:=cZ hp hm
     obtain⟨pre,cs,post,h1,h2,h3⟩:=mQ (hr i m' q hm hq) hg
     have hs:=kK (i:=i) hp fun j m p h1 h2=>(hr j m p h1 h2).size
     refine⟨(parts.take i).flatten ++ pre,cs,post ++ (parts.drop (i + 1)).flatten,?_,?_,h3⟩
     ·rw [bU hq,h1];simp
     ·rw [a₅,hs,h2];omega
   ·cases hg
  | arr parts hl hp hes hr=>
   rename_i n es l
   simp only [fc] at hg
   split at hg
   ·rename_i m' hm
    rw [bS] at hm
    cases hb:d₃ (i * es) fo with
    | false=>rw [hb] at hg;cases hg
    | true=>
     rw [hb] at hg
     have hle:=c₇ hb
     obtain⟨q,hq⟩:=cZ (hp.trans hl.symm) hm
     obtain⟨pre,cs,post,h1,h2,h3⟩:=mQ (hr i m' q hm hq) hg
     have hi:=(a₄.1 hq).1
     have hs:(parts.take i).flatten.length=i * es:=by
      rw [aR (es:=es) fun x hx=>hes x (b₄ hx),a₇,b₉ om]
     refine⟨(parts.take i).flatten ++ pre,cs,post ++ (parts.drop (i + 1)).flatten,?_,?_,h3.ofNone⟩
     ·rw [bU hq,h1];simp
     ·rw [a₅,hs,h2];omega
   ·cases hg
  | _=>simp [fc] at hg
theorem bV {α:Type} {l:List α} {i j:Nat} {x y:α} (h:(l.set i x)[j]? =some y):(j=i∧y=x)∨(j≠i∧l[j]? =some y):=by
 rw [e₃] at h;split at h
 ·rename_i e;split at h
  ·injection h with h;exact .inl ⟨e.symm,h.symm⟩
  ·cases h
 ·rename_i e;exact .inr ⟨fun h=>e h.symm,h⟩
theorem qu: ∀{path:List Nat} {fo:Nat} {m m':MV} {vs:List Value} {adr:fV},cS w P adr m vs→ff m path fo v=some m'→cS w P adr v cs→
  ∃pre old post,vs=pre ++ old ++ post∧pre.length=fo∧old.length=cs.length∧cS w P adr m' (pre ++ cs ++ post)∧m'.isAgg=m.isAgg∧(m.idFree=true→v.idFree=true→m'.idFree=true)
 | [],fo,m,m',vs,adr,h,hs,hv=>by
  have hs2:(bif a₂ fo 0 && a₂ v.size m.size then(match v.isAgg,m.isAgg with | true,true | false,false=>some v | _,_=>none) else none)=some m':=by cases m <;> exact hs
  clear hs
  cases hb:(a₂ fo 0 && a₂ v.size m.size) with
  | false=>rw [hb] at hs2;cases hs2
  | true=>
   rw [hb] at hs2
   rw [a₁] at hb
   have h0:=a₀ hb.1
   have h1:=a₀ hb.2
   subst h0
   have hag:v=m'∧v.isAgg=m.isAgg:=by
    have hs:(match v.isAgg,m.isAgg with | true,true | false,false=>some v | _,_=>none)=some m':=hs2
    split at hs
    ·rename_i e1 e2;injection hs with hs;exact⟨hs,e1.trans e2.symm⟩
    ·rename_i e1 e2;injection hs with hs;exact⟨hs,e1.trans e2.symm⟩
    ·cases hs
   obtain⟨rfl,hag⟩:=hag
   exact⟨[],vs,[],sm,rfl,by rw [h.size,hv.size,h1],by simpa using hv,hag,fun _ h=>h⟩
 | i :: p,fo,m,m',vs,adr,h,hs,hv=>by
  cases h with
  | st parts hp hr=>
   rename_i l
   simp only [ff] at hs
   split at hs
   ·rename_i x hx
    rw [bS] at hx
    cases hb:d₃ (fa l i) fo with
    | false=>rw [hb] at hs;cases hs
    | true=>
     rw [hb] at hs
     have hle:=c₇ hb
     simp only [cond_true] at hs
     split at hs
     ·rename_i x' hx'
      injection hs with hs
      subst hs
      obtain⟨q,hq⟩:=cZ hp hx
      obtain⟨pre,old,post,h1,h2,h3,h4,h5,h6⟩:=qu (hr i x q hx hq) hx' hv
      have hs:=kK (i:=i) hp fun j m p h1 h2=>(hr j m p h1 h2).size
      refine⟨(parts.take i).flatten ++ pre,old,post ++ (parts.drop (i + 1)).flatten,?_,?_,h3,?_,rfl,?_⟩
      ·rw [bU hq,h1];simp
      ·rw [a₅,hs,h2];omega
      ·have e:(parts.take i).flatten ++ pre ++ cs ++ (post ++ (parts.drop (i + 1)).flatten)=(parts.set i (pre ++ cs ++ post)).flatten:=by
        rw [jF hq];simp
       rw [e,setL_eq]
       refine .st _ (by simpa using hp) fun j y z hy hz=>?_
       rcases bV hy with ⟨rfl,rfl⟩ | ⟨hne,hy⟩
       ·rcases bV hz with ⟨_,rfl⟩ | ⟨hne,_⟩
        ·exact h4
        ·exact absurd rfl hne
       ·rcases bV hz with ⟨rfl,_⟩ | ⟨_,hz⟩
        ·exact absurd rfl hne
        ·exact hr j y z hy hz
      ·intro hf hvf
       have key: ∀{l:List MV} {i:Nat},MV.idFrees l=true→x'.idFree=true→MV.idFrees (setL l i x')=true:=by
        intro l
        induction l with
        | nil=>intro i _ _;rfl
        | cons a l ih=>
         intro i h1 h2
         have h1:(a.idFree && MV.idFrees l)=true:=h1
         rw [a₁] at h1
         cases i with
         | zero=>show (x'.idFree && MV.idFrees l)=true;rw [h2,h1.2];rfl
         | succ i=>show (a.idFree && MV.idFrees (setL l i x'))=true;rw [h1.1,ih h1.2 h2];rfl
       exact key hf (h6 (jE hf i x hx) hvf)
     ·cases hs
   ·cases hs
  | arr parts hl hp hes hr=>
   rename_i n es l
   simp only [ff] at hs
   split at hs
   ·rename_i x hx
    rw [bS] at hx
    cases hb:(d₃ (i * es) fo && v.idFree) with
    | false=>rw [hb] at hs;cases hs
    | true=>
     rw [hb] at hs
     rw [a₁] at hb
     have hle:=c₇ hb.1
     simp only [cond_true] at hs
     split at hs
     ·rename_i x' hx'
      injection hs with hs
      subst hs
      obtain⟨q,hq⟩:=cZ (hp.trans hl.symm) hx
      obtain⟨pre,old,post,h1,h2,h3,h4,h5,h6⟩:=qu (hr i x q hx hq) hx' (hv.free hb.2)
      have hi:=(a₄.1 hq).1
      have hs:(parts.take i).flatten.length=i * es:=by
       rw [aR (es:=es) fun x hx=>hes x (b₄ hx),a₇,b₉ om]
      have hql:=hes q (a₉ hq)
      refine⟨(parts.take i).flatten ++ pre,old,post ++ (parts.drop (i + 1)).flatten,?_,?_,h3,?_,rfl,fun _ _=>rfl⟩
      ·rw [bU hq,h1];simp
      ·rw [a₅,hs,h2];omega
      ·have e:(parts.take i).flatten ++ pre ++ cs ++ (post ++ (parts.drop (i + 1)).flatten)=(parts.set i (pre ++ cs ++ post)).flatten:=by
        rw [jF hq];simp
       rw [e,setL_eq]
       refine .arr _ (by simpa using hl) (by simpa using hp) (fun z hz=>?_) fun j y z hy hz=>?_
       ·rcases f₂ hz with hz | rfl
        ·exact hes z hz
        ·rw [h1] at hql
         simp only [a₅] at hql ⊢
         omega
       ·rcases bV hy with ⟨rfl,rfl⟩ | ⟨hne,hy⟩
        ·rcases bV hz with ⟨_,rfl⟩ | ⟨hne,_⟩
         ·exact h4
         ·exact absurd rfl hne
        ·rcases bV hz with ⟨rfl,_⟩ | ⟨_,hz⟩
         ·exact absurd rfl hne
         ·exact hr j y z hy hz
     ·cases hs
   ·cases hs
  | _=>simp [ff] at hs
end
end
section
structure MB where
 ty:TypeId
 es:Nat
 row:Bool
 pe:Nat
 l:List MV
abbrev FM:=Nat→Option MB
def aO {α:Type} (m:Nat→Option α) (c:Nat) (b:α):Nat→Option α:=fun x=>if x=c then some b else m x
def iT {α:Type} (m:Nat→Option α) (c:Nat):Nat→Option α:=fun x=>if x=c then none else m x
theorem aH {α:Type} (m:Nat→Option α) (c:Nat) (b:α):aO m c b c=some b:=by simp [aO]
theorem aJ {α:Type} (m:Nat→Option α) {c x:Nat} (b:α) (h:x≠c):aO m c b x=m x:=by simp [aO,h]
theorem mR {α:Type} {m:Nat→Option α} {c x:Nat} {b:α} (h:iT m c x=some b):x≠c∧m x=some b:=by
 unfold iT at h;split at h
 ·cases h
 ·exact⟨by assumption,h⟩
def DY (w:World) (P:bT) (adr:fV) (b:MB) (g:Nat):Prop:= ∃(cur:Array Value) (parts:List (List Value)),w.heap[g]? =some (.cells cur b.ty (0,0))∧parts.length=b.l.length∧(∀p∈parts,p.length=b.es)∧
  (∀(j:Nat) x p,b.l[j]? =some x→parts[j]? =some p→cS w P (if b.row then noAdr else adr) x p)∧parts.flatten <+:cur.toList
def ik (w:World) (P:bT):List MV→List MV→List MapEntry→Prop
 | [],[],[] =>True
 | k :: ks,v :: vs,e :: es=>aK w P noAdr k e.key∧aK w P noAdr v e.val∧ik w P ks vs es
 | _,_,_=>False
def w9 (w:World) (P:bT) (ks vs:List MV) (o:Obj):Prop:=(∃(clk:Nat) (es:Array MapEntry),o= .map es clk∧ik w P ks vs es.toList)∨∃(s:List UInt8) (pos:Nat),ks= [.str s] ∧vs= [.nilp, .int .i64 pos] ∧o= .stringIter ⟨s.toArray⟩ pos
def LO (w:World) (P:bT) (b:MB) (g:Nat):Prop:=b.row=false∧b.es=0∧∃(ks vs:List MV) (o:Obj),b.l= [.mpv ks vs] ∧w.heap[g]? =some o∧w9 w P ks vs o
theorem w9.cells {w:World} {P:bT} {ks vs:List MV} {cur:Array Value} {t:TypeId} {x:Nat×Nat} (h:w9 w P ks vs (.cells cur t x)):False:=by
 rcases h with ⟨_,_,h,_⟩ | ⟨_,_,_,_,h⟩ <;> cases h
structure nD (w:World) (P:bT) (adr:fV) (b:MB) (g:Nat):Prop where
 has':DY w P adr b g∨LO w P b g
 pe: ∀o,P g o→o < b.pe * b.es
 le:b.pe≤b.l.length
structure aX (w:World) (P:bT) (adr:fV) (m:FM):Prop where
 blk: ∀c b,m c=some b→(b.row=true∧b.l= [] ∧adr c=none∧b.pe=0)∨∃g,adr c=some g∧nD w P adr b g
 inj: ∀c c' b b' g,m c=some b→m c'=some b'→adr c=some g→adr c'=some g→c=c'
 prot: ∀b o,P b o→b < w.heap.size
section
variable {w w':World} {P P':bT} {adr adr':fV} {m m':FM} {b:MB} {g c:Nat}
theorem bG.sub (k:bG w w' P P' adr adr') (r:Bool):bG w w' P P' (if r then noAdr else adr) (if r then noAdr else adr'):=by
 cases r
 ·exact k
 ·exact k.free
theorem nD.lt (h:nD w P adr b g):g < w.heap.size:=by
 rcases h.has' with ⟨cur,parts,h1,_⟩ | ⟨_,_,_,_,_,_,h1,_⟩
 ·exact(Array.getElem?_eq_some_iff.1 h1).1
 ·exact(Array.getElem?_eq_some_iff.1 h1).1
theorem ik.keep (k:bG w w' P P' adr adr'): ∀{ks vs:List MV} {es:List MapEntry},ik w P ks vs es→ik w' P' ks vs es
 | [],[],[],_=>trivial
 | _ :: _,_ :: _,_ :: _,h=>⟨h.1.keep k.free,h.2.1.keep k.free,ik.keep k h.2.2⟩
 | [],[],_ :: _,h=>h.elim
 | [],_ :: _,_,h=>h.elim
 | _ :: _,[],_,h=>h.elim
 | _ :: _,_ :: _,[],h=>h.elim
theorem w9.keep (k:bG w w' P P' adr adr') {ks vs:List MV} {o:Obj} (h:w9 w P ks vs o):w9 w' P' ks vs o:=by
 rcases h with ⟨clk,es,h1,h2⟩ | h
 ·exact .inl ⟨clk,es,h1,h2.keep k⟩
 ·exact .inr h
theorem nD.ofE (h:nD w P adr b g) (he:b.es≠0):DY w P adr b g:=h.has'.elim id fun h=>absurd h.2.1 he
theorem nD.ofR (h:nD w P adr b g) (hr:b.row=true):DY w P adr b g:=h.has'.elim id fun h=>by rw [h.1] at hr;cases hr
theorem nD.ofL (h:nD w P adr b g) (hl: ∀ks vs,b.l≠ [.mpv ks vs]):DY w P adr b g:=h.has'.elim id fun h=>by
 obtain⟨_,_,ks,vs,_,e,_⟩:=h;exact absurd e (hl ks vs)
theorem nD.ofX (h:nD w P adr b g) {k:Nat} {x:MV} (hx:b.l[k]? =some x) (hn: ∀ks vs,x≠ .mpv ks vs):DY w P adr b g:=h.ofL fun ks vs e=>by
 rw [e] at hx;cases k with
 | zero=>injection hx with hx;exact hn ks vs hx.symm
 | succ k=>simp at hx
theorem nD.keep (h:nD w P adr b g) (k:bG w w' P P' adr adr') (hg:w'.heap[g]? =w.heap[g]?) (hp: ∀o,P' g o→P g o):nD w' P' adr' b g:=by
 refine⟨?_,fun o ho=>h.pe o (hp o ho),h.le⟩;rcases h.has' with ⟨cur,parts,h1,h2,h3,h4,h5⟩ | ⟨h1,h2,ks,vs,o,h3,h4,h5⟩
 ·exact .inl ⟨cur,parts,hg.trans h1,h2,h3,fun j x p hx hq=>(h4 j x p hx hq).keep (k.sub b.row),h5⟩
 ·exact .inr ⟨h1,h2,ks,vs,o,h3,hg.trans h4,h5.keep k⟩
def iU (w w':World) (P:bT):bT:=fun b o=>P b o∨(w.heap.size≤b∧b < w'.heap.size)
theorem gR {b o:Nat} (h:w'.heap[b]? =w.heap[b]?):w'.cell? ⟨b,o,none⟩=w.cell? ⟨b,o,none⟩:=World.cell?_of_block (a:=⟨b,o,none⟩) h
theorem bG.below (hI: ∀b o,P b o→b < w.heap.size) (hb:Below w.heap.size w w'):bG w w' P (iU w w' P) adr adr:=
 ⟨fun _ _ h=> .inl h,fun b o h=>gR (hb.block b (hI b o h)),fun _ _ h=>h,fun _c g cur _ty _ hw=>⟨cur,(hb.block g (Array.getElem?_eq_some_iff.1 hw).1).trans hw,rfl⟩⟩
theorem aX.below (h:aX w P adr m) (hb:Below w.heap.size w w'):aX w' (iU w w' P) adr m:=by
 refine⟨fun c b hc=>?_,h.inj,fun b o hp=>?_⟩
 ·rcases h.blk c b hc with h1 | ⟨g,h1,h2⟩
  ·exact .inl h1
  ·refine .inr ⟨g,h1,h2.keep (bG.below h.prot hb) (hb.block g h2.lt) fun o ho=>?_⟩;rcases ho with ho | ho
   ·exact ho
   ·exact absurd h2.lt om
 ·rcases hp with hp | hp
  ·exact g₇ (h.prot b o hp) hb.size
  ·exact hp.2
theorem Below.alloc1 (w:World) (o:Obj):Below w.heap.size w (w.alloc o):=(Below.refl _ _).alloc (e₉ _) _
theorem bG.below' (hI: ∀b o,P b o→b < w.heap.size) (hb:Below w.heap.size w w'):bG w w' P P adr adr:=
 ⟨fun _ _ h=>h,fun b o h=>gR (hb.block b (hI b o h)),fun _ _ h=>h,fun _c g cur _ty _ hw=>⟨cur,(hb.block g (Array.getElem?_eq_some_iff.1 hw).1).trans hw,rfl⟩⟩
theorem bG.adr1 (hc:adr c=none) (g:Nat):bG w w P P adr (aO adr c g):=
 ⟨fun _ _ h=>h,fun _ _ _=>rfl,fun x y h=>by
  by_cases e:x=c
  ·subst e;rw [hc] at h;cases h
  ·rw [aJ _ _ e];exact h,fun _ _ cur _ _ h=>⟨cur,h,rfl⟩⟩
theorem aX.newG (h:aX w P adr m) (hc:adr c=none) (hm:m c=none) (hb:Below w.heap.size w w') (hB:bG w w' P P adr (aO adr c w.heap.size)→DY w' P (aO adr c w.heap.size) b w.heap.size∨LO w' P b w.heap.size) (hle:b.pe≤b.l.length) :
  aX w' P (aO adr c w.heap.size) (aO m c b)∧bG w w' P P adr (aO adr c w.heap.size):=by
 have k:bG w w' P P adr (aO adr c w.heap.size):=(bG.below' h.prot hb).trans (bG.adr1 hc _)
 have hnew: ∀o,¬ P w.heap.size o:=fun o ho=>absurd (h.prot _ _ ho) (Nat.lt_irrefl _)
 refine⟨⟨fun x y hx=>?_,fun x y bx bY g hx hy hgx hgy=>?_,fun b o hp=>g₇ (h.prot b o hp) hb.size⟩,k⟩
 ·by_cases e:x=c
  ·subst e
   rw [aH] at hx
   injection hx with hx
   subst hx
   exact .inr ⟨_,aH _ _ _,hB k,fun o ho=>absurd ho (hnew o),hle⟩
  ·rw [aJ _ _ e] at hx
   rcases h.blk x y hx with h1 | ⟨g,h1,h2⟩
   ·exact .inl ⟨h1.1,h1.2.1,by rw [aJ _ _ e];exact h1.2.2.1,h1.2.2.2⟩
   ·exact .inr ⟨g,by rw [aJ _ _ e];exact h1,h2.keep k (hb.block g h2.lt) fun o ho=>ho⟩
 ·have old: ∀{x:Nat} {bx:MB} {g:Nat},x≠c→aO m c b x=some bx→aO adr c w.heap.size x=some g→m x=some bx∧adr x=some g∧g < w.heap.size:=by
   intro x bx g e hx hg
   rw [aJ _ _ e] at hx hg
   rcases h.blk x bx hx with h1 | ⟨g',h1,h2⟩
   ·rw [h1.2.2.1] at hg;cases hg
   ·rw [h1] at hg;injection hg with hg;subst hg;exact⟨hx,h1,h2.lt⟩
  by_cases ex:x=c
  ·by_cases ey:y=c
   ·exact ex.trans ey.symm
   ·subst ex
    rw [aH] at hgx
    injection hgx with hgx
    obtain⟨_,_,h3⟩:=old ey hy hgy
    omega
  ·by_cases ey:y=c
   ·subst ey
    rw [aH] at hgy
    injection hgy with hgy
    obtain⟨_,_,h3⟩:=old ex hx hgx
    omega
   ·obtain⟨a1,a2,_⟩:=old ex hx hgx
    obtain⟨b1,b2,_⟩:=old ey hy hgy
    exact h.inj x y bx bY g a1 b1 a2 b2
theorem aX.new (h:aX w P adr m) (hc:adr c=none) (hm:m c=none) (hb:Below w.heap.size w w') {cur:Array Value} {parts:List (List Value)} (hg:w'.heap[w.heap.size]? =some (.cells cur b.ty (0,0))) (hpl:parts.length=b.l.length) (hpe: ∀p∈parts,p.length=b.es)
  (hr: ∀(j:Nat) x p,b.l[j]? =some x→parts[j]? =some p→cS w P (if b.row then noAdr else adr) x p) (hcur:parts.flatten <+:cur.toList) (hle:b.pe≤b.l.length) :
  aX w' P (aO adr c w.heap.size) (aO m c b)∧bG w w' P P adr (aO adr c w.heap.size):=
 h.newG hc hm hb (fun k=> .inl ⟨cur,parts,hg,hpl,hpe,fun j x p h1 h2=>(hr j x p h1 h2).keep (k.sub b.row),hcur⟩) hle
theorem aX.sub (h:aX w P adr m) (hs: ∀c b,m' c=some b→m c=some b):aX w P adr m':=⟨fun c b hc=>h.blk c b (hs c b hc),fun c c' b b' g h1 h2=>h.inj c c' b b' g (hs _ _ h1) (hs _ _ h2),h.prot⟩
theorem dW {α:Type} {l r:List α} (h:l <+:r) {j:Nat} {x:α} (hx:l[j]? =some x):r[j]? =some x:=by
 obtain⟨t,rfl⟩:=h;rw [b₂ (a₄.1 hx).1];exact hx
theorem aX.write (h:aX w P adr m) {b':MB} (hlen:b.l.length≤b'.l.length) (hm:m c=some b) (ha:adr c=some g) (hty:b'.ty=b.ty) (hes:b'.es=b.es) (hpe:b'.pe=b.pe) {cur cur':Array Value} (hg:w.heap[g]? =some (.cells cur b.ty (0,0))) (hsz:cur'.size=cur.size)
  (hsame: ∀o,P g o→cur'[o]? =cur[o]?) {parts:List (List Value)} (hpl:parts.length=b'.l.length) (hpes: ∀p∈parts,p.length=b'.es)
  (hr: ∀(j:Nat) x p,b'.l[j]? =some x→parts[j]? =some p→cS w P (if b'.row then noAdr else adr) x p) (hcur:parts.flatten <+:cur'.toList) :
  aX (w.setRow g cur') P adr (aO m c b')∧bG w (w.setRow g cur') P P adr adr:=by
 have hgw:=setRow_heap w g cur cur' b.ty (0,0) hg
 have k:bG w (w.setRow g cur') P P adr adr:=by
  refine⟨fun _ _ h=>h,fun x o hp=>?_,fun _ _ h=>h,fun c' g' cu ty hc hw=>?_⟩
  ·by_cases e:x=g
   ·subst e
    rw [cell_of_row _ x o cur' b.ty (0,0) hgw,cell_of_row _ x o cur b.ty (0,0) hg]
    exact hsame o hp
   ·exact gR (setRow_other _ _ _ _ e)
  ·by_cases e:g'=g
   ·subst e
    rw [hg] at hw
    injection hw with hw
    injection hw with h1 h2
    subst h1;subst h2
    exact⟨cur',hgw,hsz⟩
   ·exact⟨cu,(setRow_other _ _ _ _ e).trans hw,rfl⟩
 refine⟨⟨fun x y hx=>?_,fun x y bx bY g' hx hy hgx hgy=>?_,fun b o hp=>by simpa using h.prot b o hp⟩,k⟩
 ·by_cases e:x=c
  ·subst e
   rw [aH] at hx
   injection hx with hx
   subst hx
   refine .inr ⟨g,ha, .inl ⟨cur',parts,by rw [hty];exact hgw,hpl,hpes,fun j x p h1 h2=>(hr j x p h1 h2).keep (k.sub b'.row),hcur⟩,fun o ho=>?_,?_⟩
   rw [hpe,hes]
   rcases h.blk x b hm with h1 | ⟨g',h1,h2⟩
   ·rw [ha] at h1;cases h1.2.2.1
   ·rw [ha] at h1;injection h1 with h1;subst h1;exact h2.pe o ho
   rw [hpe]
   rcases h.blk x b hm with h1 | ⟨g',h1,h2⟩
   ·rw [ha] at h1;cases h1.2.2.1
   ·exact Nat.le_trans h2.le hlen
  ·rw [aJ _ _ e] at hx
   rcases h.blk x y hx with h1 | ⟨g',h1,h2⟩
   ·exact .inl h1
   ·refine .inr ⟨g',h1,h2.keep k (setRow_other _ _ _ _ fun eg=>e ?_) fun o ho=>ho⟩
    subst eg
    exact h.inj x c y b g' hx hm h1 ha
 ·have old: ∀{x:Nat} {bx:MB},aO m c b' x=some bx→∃by_,m x=some by_:=by
   intro x bx hx
   by_cases e:x=c
   ·subst e;exact⟨b,hm⟩
   ·rw [aJ _ _ e] at hx;exact⟨bx,hx⟩
  obtain⟨_,h1⟩:=old hx
  obtain⟨_,h2⟩:=old hy
  exact h.inj x y _ _ g' h1 h2 hgx hgy
theorem aX.writeM (h:aX w P adr m) {ks vs ks' vs':List MV} (hm:m c=some b) (hl:b.l= [.mpv ks vs]) (ha:adr c=some g) {o o':Obj} (hg:w.heap[g]? =some o) (hgo:w9 w P ks vs o) (hgw:w'.heap[g]? =some o') (hso: ∀x,x≠g→w'.heap[x]? =w.heap[x]?) (hsz:w'.heap.size=w.heap.size) (hE:w9 w P ks' vs' o') :
  aX w' P adr (aO m c { b with l:= [.mpv ks' vs'] })∧bG w w' P P adr adr:=by
 have hB:LO w P b g∧b.pe≤b.l.length∧∀o,P g o→o < b.pe * b.es:=by
  rcases h.blk c b hm with h1 | ⟨g',h1,h2⟩
  ·rw [ha] at h1;cases h1.2.2.1
  ·rw [ha] at h1;injection h1 with h1;subst h1
   rcases h2.has' with ⟨cur,_,h3,_⟩ | h3
   ·rw [hg] at h3;injection h3 with h3;subst h3;exact hgo.cells.elim
   ·exact⟨h3,h2.le,h2.pe⟩
 obtain⟨hB,hle,hpe⟩:=hB
 have hno: ∀o,¬ P g o:=fun o ho=>by have:=hpe o ho;rw [hB.2.1,Nat.mul_zero] at this;omega
 have k:bG w w' P P adr adr:=by
  refine⟨fun _ _ h=>h,fun x o hp=>?_,fun _ _ h=>h,fun c' g' cu ty hc hw=>?_⟩
  ·by_cases e:x=g
   ·subst e;exact absurd hp (hno o)
   ·exact gR (hso _ e)
  ·by_cases e:g'=g
   ·subst e;rw [hg] at hw;injection hw with hw;subst hw;exact hgo.cells.elim
   ·exact⟨cu,(hso _ e).trans hw,rfl⟩
 refine⟨⟨fun x y hx=>?_,fun x y bx bY g' hx hy hgx hgy=>?_,fun b o hp=>by rw [hsz];exact h.prot b o hp⟩,k⟩
 ·by_cases e:x=c
  ·subst e
   rw [aH] at hx
   injection hx with hx
   subst hx
   refine .inr ⟨g,ha, .inr ⟨hB.1,hB.2.1,ks',vs',o',rfl,hgw,hE.keep k⟩,fun o ho=>absurd ho (hno o),?_⟩
   rw [hl] at hle
   exact hle
  ·rw [aJ _ _ e] at hx
   rcases h.blk x y hx with h1 | ⟨g',h1,h2⟩
   ·exact .inl h1
   ·refine .inr ⟨g',h1,h2.keep k (hso _ fun eg=>e ?_) fun o ho=>ho⟩
    subst eg
    exact h.inj x c y b g' hx hm h1 ha
 ·have old: ∀{x:Nat} {bx:MB},aO m c { b with l:= [.mpv ks' vs'] } x=some bx→∃by_,m x=some by_:=by
   intro x bx hx
   by_cases e:x=c
   ·subst e;exact⟨b,hm⟩
   ·rw [aJ _ _ e] at hx;exact⟨bx,hx⟩
  obtain⟨_,h1⟩:=old hx
  obtain⟨_,h2⟩:=old hy
  exact h.inj x y _ _ g' h1 h2 hgx hgy
theorem aX.rename {d:Nat} (h:aX w P adr (aO m c b)) (ha:adr c=some g) (hd:adr d=none) (hm:m d=none):aX w P (aO adr d g) (aO (iT m c) d b)∧bG w w P P adr (aO adr d g):=by
 have k:bG w w P P adr (aO adr d g):=bG.adr1 hd g;have hcd:c≠d:=by rintro rfl;rw [ha] at hd;cases hd
 have old: ∀{x:Nat} {y:MB},x≠d→aO (iT m c) d b x=some y→x≠c∧aO m c b x=some y:=by
  intro x y e hx;rw [aJ _ _ e] at hx;obtain⟨h1,h2⟩:=mR hx;exact⟨h1,by rw [aJ _ _ h1];exact h2⟩
 refine⟨⟨fun x y hx=>?_,fun x y bx bY g' hx hy hgx hgy=>?_,h.prot⟩,k⟩
 ·by_cases e:x=d
  ·subst e;rw [aH] at hx;injection hx with hx
   subst hx;rcases h.blk c b (aH _ _ _) with h1 | ⟨g',h1,h2⟩
   ·rw [ha] at h1;cases h1.2.2.1
   ·rw [ha] at h1;injection h1 with h1;subst h1
    exact .inr ⟨g,aH _ _ _,h2.keep k rfl fun _ h=>h⟩
  ·obtain⟨h1,h2⟩:=old e hx;rcases h.blk x y h2 with h3 | ⟨g',h3,h4⟩
   ·exact .inl ⟨h3.1,h3.2.1,by rw [aJ _ _ e];exact h3.2.2.1,h3.2.2.2⟩
   ·exact .inr ⟨g',by rw [aJ _ _ e];exact h3,h4.keep k rfl fun _ h=>h⟩
 ·by_cases ex:x=d
  ·by_cases ey:y=d
   ·exact ex.trans ey.symm
   ·subst ex;rw [aH] at hgx;injection hgx with hgx
    obtain⟨h1,h2⟩:=old ey hy;rw [aJ _ _ ey,← hgx] at hgy;exact absurd (h.inj y c _ _ g h2 (aH _ _ _) hgy ha) h1
  ·by_cases ey:y=d
   ·subst ey;rw [aH] at hgy;injection hgy with hgy
    obtain⟨h1,h2⟩:=old ex hx;rw [aJ _ _ ex,← hgy] at hgx;exact absurd (h.inj x c _ _ g h2 (aH _ _ _) hgx ha) h1
   ·obtain⟨_,h2⟩:=old ex hx;obtain⟨_,h4⟩:=old ey hy;rw [aJ _ _ ex] at hgx;rw [aJ _ _ ey] at hgy;exact h.inj x y _ _ g' h2 h4 hgx hgy
theorem aX.unborn (h:aX w P adr m) (hc:adr c=none) (hr:b.row=true) (hl:b.l= []) (hpe:b.pe=0):aX w P adr (aO m c b):=by
 refine⟨fun x y hx=>?_,fun x y bx bY g hx hy hgx hgy=>?_,h.prot⟩
 ·by_cases e:x=c
  ·subst e;rw [aH] at hx;injection hx with hx
   subst hx;exact .inl ⟨hr,hl,hc,hpe⟩
  ·rw [aJ _ _ e] at hx;exact h.blk x y hx
 ·have old: ∀{x:Nat} {y:MB},adr x=some g→aO m c b x=some y→m x=some y:=by
   intro x y hg hx;by_cases e:x=c
   ·subst e;rw [hc] at hg;cases hg
   ·rw [aJ _ _ e] at hx;exact hx
  exact h.inj x y _ _ g (old hgx hx) (old hgy hy) hgx hgy
end
end
section
def tup:List Value→Value
 | [v] =>v
 | vs=> .tuple vs.toArray
section
variable {P:Program} {T:bB} {N:Nat} {ents:List FuncId}
def sS (tmps:Array Value):ResultVar→Sem Value
 | .tmp t=>pure (tmps.getD t undef)
 | .cell p t=>do loadVar t (← asAddr (tmps.getD p undef))
theorem vg {ty:TypeId} {v u:Value} {w:World} (h:(Instr.loadAt ty v).run P w= .ok u w):(do loadVar ty (← asAddr v):Sem Value).run P w= .ok u w:=by
 cases v with
 | pointer ao=>
  cases ao with
  | none=>simp [Instr.loadAt,Instr.sureAddr,stuck] at h
  | some a=>simpa [Instr.loadAt,Instr.sureAddr,asAddr] using h
 | _=>simp [Instr.loadAt,Instr.sureAddr,stuck] at h
theorem lH {fn:Func} {rs:List ResultVar} (hrs:fn.results=rs.toArray) (h5:rs.length≤6) {tmps:Array Value} {w:World} {vs:List Value} (hl:vs.length=rs.length)
  (hi: ∀(i:Nat) (r:ResultVar),rs[i]? =some r→∃v,vs[i]? =some v∧(sS tmps r).run P w= .ok v w) :
  (results fn tmps).run P w= .ok (tup vs) w:=by
 have hres:results fn tmps=(do
   let vs ← fn.results.mapM (sS tmps)
   pure (if h:vs.size=1 then vs[0] else .tuple vs)):=by
  unfold results
  congr 1
 rw [hres,hrs]
 match rs,vs,h5,hl,hi with
 | [],[],_,_,_=>simp [tup]
 | [r1],[v1],_,_,hi=>
  obtain⟨u1,e1,r1⟩:=hi 0 _ rfl
  simp at e1;subst e1
  simp [r1,tup]
 | [r1,r2],[v1,v2],_,_,hi=>
  obtain⟨u1,e1,q1⟩:=hi 0 _ rfl
  obtain⟨u2,e2,q2⟩:=hi 1 _ rfl
  simp at e1 e2;subst e1;subst e2
  simp [q1,q2,tup]
 | [r1,r2,r3],[v1,v2,v3],_,_,hi=>
  obtain⟨u1,e1,q1⟩:=hi 0 _ rfl
  obtain⟨u2,e2,q2⟩:=hi 1 _ rfl
  obtain⟨u3,e3,q3⟩:=hi 2 _ rfl
  simp at e1 e2 e3;subst e1;subst e2;subst e3
  simp [q1,q2,q3,tup]
 | [r1,r2,r3,r4],[v1,v2,v3,v4],_,_,hi=>
  obtain⟨u1,e1,q1⟩:=hi 0 _ rfl
  obtain⟨u2,e2,q2⟩:=hi 1 _ rfl
  obtain⟨u3,e3,q3⟩:=hi 2 _ rfl
  obtain⟨u4,e4,q4⟩:=hi 3 _ rfl
  simp at e1 e2 e3 e4;subst e1;subst e2;subst e3;subst e4
  simp [q1,q2,q3,q4,tup]
 | [r1,r2,r3,r4,r5],[v1,v2,v3,v4,v5],_,_,hi=>
  obtain⟨u1,e1,q1⟩:=hi 0 _ rfl
  obtain⟨u2,e2,q2⟩:=hi 1 _ rfl
  obtain⟨u3,e3,q3⟩:=hi 2 _ rfl
  obtain⟨u4,e4,q4⟩:=hi 3 _ rfl
  obtain⟨u5,e5,q5⟩:=hi 4 _ rfl
  simp at e1 e2 e3 e4 e5;subst e1;subst e2;subst e3;subst e4;subst e5
  simp [q1,q2,q3,q4,q5,tup]
 | [r1,r2,r3,r4,r5,r6],[v1,v2,v3,v4,v5,v6],_,_,hi=>
  obtain⟨u1,e1,q1⟩:=hi 0 _ rfl
  obtain⟨u2,e2,q2⟩:=hi 1 _ rfl
  obtain⟨u3,e3,q3⟩:=hi 2 _ rfl
  obtain⟨u4,e4,q4⟩:=hi 3 _ rfl
  obtain⟨u5,e5,q5⟩:=hi 4 _ rfl
  obtain⟨u6,e6,q6⟩:=hi 5 _ rfl
  simp at e1 e2 e3 e4 e5 e6;subst e1;subst e2;subst e3;subst e4;subst e5;subst e6
  simp [q1,q2,q3,q4,q5,q6,tup]
end
end
section
theorem eo (n:Int) (h1: -9223372036854775808≤n) (h2:n < 9223372036854775808):IntKind.i64.wrap n=n:=by
 rw [IntKind.wrap_i64];omega
theorem bM (n:Int) (h1:0≤n) (h2:n < 18446744073709551616):IntKind.u64.wrap n=n:=by
 simp only [IntKind.wrap,IntKind.bits,IntKind.signed];simp;omega
theorem gF (n:Int) (h1:0≤n) (h2:n < 256):IntKind.u8.wrap n=n:=by
 simp only [IntKind.wrap,IntKind.bits,IntKind.signed];simp;omega
end
section
def xa (T:bB):List (Nat×TypeId)→Nat→Nat→Bool
 | [],b,sz=>a₂ b sz
 | (o,t) :: fs,b,sz=>a₂ o b && match bB.find T t with | some d=>xa T fs (b + d.size) sz | none=>false
def sU (P:Program) (T:bB):Nat→TypeId→Bool
 | 0,_=>false
 | f + 1,t=>match bB.find T t with
  | some (.int _)=>true
  | some .bool=>true
  | some .str=>true
  | some (.arr _ e es)=>f₃ 0 es && sU P T f e
  | some (.struct fs sz)=> !P.stoodInHeld t && (P.fieldsOf t).toList.all (fun x=> !(x.name == "_")) && xa T fs 0 sz && fs.all (fun x=>sU P T f x.2)
  | _=>false
def jG (T:bB):Nat→TypeId→List Value→Prop
 | 0,_,_=>False
 | f + 1,t,cs=>match bB.find T t with
  | some (.int k)=> ∃n,cs= [.int k n]
  | some .bool=> ∃b,cs= [.bool b]
  | some .str=> ∃s,cs= [.string s]
  | some (.arr n e es)=>cs.length=n * es∧∀i,i < n→jG T f e ((cs.drop (i * es)).take es)
  | some (.struct fs sz)=>cs.length=sz∧fs.foldr (fun x K=>(match bB.find T x.2 with | some d=>jG T f x.2 ((cs.drop x.1).take d.size) | none=>False)∧K) True
  | _=>False
def vF (T:bB) (t:TypeId) (cs:List Value):Value:=match bB.find T t with
 | some d=>match d.agg with | true=> .agg ⟨cs⟩ | false=>cs.headD undef
 | none=>undef
section
variable {P:Program} {T:bB}
theorem il (hT:cB P T) {t:TypeId} {d:TD} (hd:bB.find T t=some d) {xs:List Value} {off:Nat} (hl:((xs.drop off).take d.size).length=d.size) (hpos:d.agg=false→d.size=1) (w:World) :
  (part t ⟨xs⟩ off).run P w= .ok (vF T t ((xs.drop off).take d.size)) w:=by
 have hsd:=TD.fits_size (hT.fits hd)
 unfold vF
 rw [hd]
 cases ha:d.agg with
 | true=>
  simp only [part,Sem.run_bind,TD.fits_agg (hT.fits hd),ha,Result.andThen_ok,if_true,bD hsd,Sem.run_pure]
  simp [g₈]
 | false=>
  rw [hpos ha] at hl ⊢
  simp only [part,Sem.run_bind,TD.fits_agg (hT.fits hd),ha,Result.andThen_ok,c₃,if_false]
  have h1:off < xs.length:=by
   rw [a₇,c₂] at hl
   omega
  have e:(List.take 1 (List.drop off xs))= [xs[off]] :=by rw [f₁ h1];rfl
  rw [e]
  simp [h1]
theorem TD.size_one {d:TD} (h:d.agg=false):d.size=1:=by cases d <;> first | rfl | (simp [TD.agg] at h)
theorem yB {f:Nat} {t:TypeId} {d:TD} {cs:List Value} (hd:bB.find T t=some d) (h:jG T f t cs):cs.length=d.size:=by
 cases f with
 | zero=>exact h.elim
 | succ f=>
  unfold jG at h;rw [hd] at h;cases d with
  | int k=>obtain ⟨n,rfl⟩:=h;rfl
  | bool=>obtain ⟨n,rfl⟩:=h;rfl
  | str=>obtain ⟨n,rfl⟩:=h;rfl
  | arr n e es=>exact h.1
  | struct fs sz=>exact h.1
  | ptr=>exact h.elim
  | slice=>exact h.elim
  | fn=>exact h.elim
  | other=>exact h.elim
  | iface=>exact h.elim
theorem Cw {xs ys:List Value} {sz:Nat} (hx:xs.length=sz) (hy:ys.length=sz): ∀{fs:List (Nat×TypeId)} {b:Nat},xa T fs b sz=true→xs.take b=ys.take b→
  (∀x∈fs,∀d,bB.find T x.2=some d→(xs.drop x.1).take d.size=(ys.drop x.1).take d.size)→xs=ys
 | [],b,h,h1,_=>by
  have:=a₀ h
  subst this
  rw [e₄ om,e₄ om] at h1
  exact h1
 | (o,t) :: fs,b,h,h1,h2=>by
  simp only [xa,a₁] at h
  obtain⟨ho,h⟩:=h
  have:=a₀ ho
  subst this
  split at h
  ·rename_i d hd
   refine Cw hx hy h ?_ (fun x hx=>h2 x (d₄ _ hx))
   rw [List.take_add,List.take_add,h1,h2 _ e₁ d hd]
  ·cases h
theorem Js {xs ys:List Value} {n es:Nat} (hes:0 < es) (hx:xs.length=n * es) (hy:ys.length=n * es) (h: ∀i,i < n→(xs.drop (i * es)).take es=(ys.drop (i * es)).take es):xs=ys:=by
 refine d₂ fun j=>?_
 by_cases hj:j < n * es
 ·have hi:j / es < n:=(Nat.div_lt_iff_lt_mul hes).2 hj;have h1:=congrArg (fun l=>l[j % es]?) (h _ hi);simp only [c₄,c₅,if_pos (Nat.mod_lt j hes)] at h1;have e:j / es * es + j % es=j:=by rw [Nat.mul_comm];exact Nat.div_add_mod j es
  rw [e] at h1;exact h1
 ·rw [e₆ om,e₆ om]
def Cx (P:Program) (T:bB) (D:Nat) (t:TypeId) (xs ys:List Value):Prop:= ∃b:Bool,(∀w,(Op.equalIn D t (vF T t xs) (vF T t ys)).run P w= .ok b w)∧(b=true↔xs=ys)
theorem yC (hT:cB P T) {D:Nat} {e:TypeId} {d:TD} (hd:bB.find T e=some d) {xs ys:List Value} :
  ∀{is:List Nat},(∀i∈is,((xs.drop (i * d.size)).take d.size).length=d.size∧((ys.drop (i * d.size)).take d.size).length=d.size∧Cx P T D e ((xs.drop (i * d.size)).take d.size) ((ys.drop (i * d.size)).take d.size))→
   ∃b:Bool,(∀w,(Op.eqItems D e d.size ⟨xs⟩ ⟨ys⟩ is).run P w= .ok b w)∧(b=true↔ ∀i∈is,(xs.drop (i * d.size)).take d.size=(ys.drop (i * d.size)).take d.size)
 | [],_=>⟨true,fun w=>by simp [Op.eqItems],sm⟩
 | i :: is,h=>by
  obtain⟨hx,hy,b,hr,hb⟩:=h i e₁
  obtain⟨b',hr',hb'⟩:=yC hT hd (is:=is) (fun j hj=>h j (d₄ _ hj))
  cases b with
  | false=>
   refine⟨false,fun w=>?_,?_⟩
   ·simp only [Op.eqItems,Sem.run_bind,il hT hd hx TD.size_one,il hT hd hy TD.size_one,hr,Result.andThen_ok]
    simp
   ·simp only [d₆,forall_eq_or_imp,c₃,false_iff,not_and]
    intro e
    exact absurd (hb.2 e) sm
  | true=>
   refine⟨b',fun w=>?_,?_⟩
   ·simp only [Op.eqItems,Sem.run_bind,il hT hd hx TD.size_one,il hT hd hy TD.size_one,hr,Result.andThen_ok]
    simpa using hr' w
   ·simp only [d₆,forall_eq_or_imp]
    rw [hb']
    exact⟨fun h=>⟨hb.1 rfl,h⟩,fun h=>h.2⟩
theorem vG (hT:cB P T) {D:Nat} {xs ys:List Value} :
  ∀{fs:List Field},(∀f∈fs,(f.name == "_")=false∧∃d,bB.find T f.type=some d∧((xs.drop f.offset).take d.size).length=d.size∧((ys.drop f.offset).take d.size).length=d.size∧Cx P T D f.type ((xs.drop f.offset).take d.size) ((ys.drop f.offset).take d.size))→
   ∃b:Bool,(∀w,(Op.eqFields D ⟨xs⟩ ⟨ys⟩ fs).run P w= .ok b w)∧(b=true↔ ∀f∈fs,∀d,bB.find T f.type=some d→(xs.drop f.offset).take d.size=(ys.drop f.offset).take d.size)
 | [],_=>⟨true,fun w=>by simp [Op.eqFields],sm⟩
 | f :: fs,h=>by
  obtain⟨hn,d,hd,hx,hy,b,hr,hb⟩:=h f e₁
  obtain⟨b',hr',hb'⟩:=vG hT (fs:=fs) (fun j hj=>h j (d₄ _ hj))
  have hn':f.name≠ "_" :=by simpa using hn
  cases b with
  | false=>
   refine⟨false,fun w=>?_,?_⟩
   ·simp only [Op.eqFields,if_pos hn',Sem.run_bind,il hT hd hx TD.size_one,il hT hd hy TD.size_one,hr,Result.andThen_ok]
    simp
   ·simp only [d₆,forall_eq_or_imp,c₃,false_iff,not_and]
    intro e
    exact absurd (hb.2 (e d hd)) sm
  | true=>
   refine⟨b',fun w=>?_,?_⟩
   ·simp only [Op.eqFields,if_pos hn',Sem.run_bind,il hT hd hx TD.size_one,il hT hd hy TD.size_one,hr,Result.andThen_ok]
    simpa using hr' w
   ·simp only [d₆,forall_eq_or_imp]
    rw [hb']
    refine⟨fun h=>⟨fun d' hd'=>?_,h⟩,fun h=>h.2⟩
    rw [hd] at hd'
    injection hd' with hd'
    subst hd'
    exact hb.1 rfl
theorem qv {T:bB} {f:Nat} {cs:List Value}: ∀{fs:List (Nat×TypeId)},fs.foldr (fun x K=>(match bB.find T x.2 with | some d=>jG T f x.2 ((cs.drop x.1).take d.size) | none=>False)∧K) True→∀x∈fs,∃d,bB.find T x.2=some d∧jG T f x.2 ((cs.drop x.1).take d.size)
 | [],_,x,hx=>by cases hx
 | y :: fs,h,x,hx=>by
  simp only [f₈] at h
  rcases d₆.1 hx with rfl | hx
  ·have h1:=h.1
   split at h1
   ·rename_i d hd;exact⟨d,hd,h1⟩
   ·exact h1.elim
  ·exact qv h.2 x hx
theorem xb (hT:cB P T) {e:TypeId} {d:TD} {es:Nat} (hd:bB.find T e=some d) (hs:fU P e es=true):d.size=es:=by
 have hsd:=TD.fits_size (hT.fits hd);unfold fU at hs hsd;split at hs
 ·rename_i i hi';rw [hi'] at hsd;simp at hs hsd;omega
 ·cases hs
theorem xc (hT:cB P T): ∀(f:Nat) {t:TypeId},sU P T f t=true→∀{D:Nat},f≤D→∀{xs ys:List Value},jG T f t xs→jG T f t ys→Cx P T D t xs ys
 | 0,_,h,_,_,_,_,_,_=>by cases h
 | f + 1,t,h,D,hD,xs,ys,hx,hy=>by
  obtain⟨D,rfl⟩: ∃D',D=D' + 1:=⟨D - 1,om⟩
  unfold sU at h
  unfold Cx
  have hx0:=hx
  have hy0:=hy
  unfold jG at hx hy
  unfold vF
  split at h
  ·rename_i k hd
   rw [hd] at hx hy ⊢
   obtain⟨a,rfl⟩:=hx
   obtain⟨b,rfl⟩:=hy
   exact⟨a == b,fun w=>run_equalIn_int w D t k k a b (TD.fits_int (hT.fits hd)),sm⟩
  ·rename_i hd
   rw [hd] at hx hy ⊢
   obtain⟨a,rfl⟩:=hx
   obtain⟨b,rfl⟩:=hy
   exact⟨a == b,fun w=>run_equalIn_bool' w D t a b (TD.fits_bool (hT.fits hd)),sm⟩
  ·rename_i hd
   rw [hd] at hx hy ⊢
   obtain⟨a,rfl⟩:=hx
   obtain⟨b,rfl⟩:=hy
   refine⟨a.toList == b.toList,fun w=>run_equalIn_string w D t a b (TD.fits_str (hT.fits hd)),?_⟩
   rw [ByteArray.toList_eq,ByteArray.toList_eq]
   obtain⟨⟨x⟩⟩:=a
   obtain⟨⟨y⟩⟩:=b
   simp
  ·rename_i n e es hd
   simp only [a₁] at h
   obtain⟨hpos,hf⟩:=h
   have hpos:0 < es:=by simpa [g₁] using hpos
   rw [hd] at hx hy ⊢
   obtain⟨lx,cx⟩:=hx
   obtain⟨ly,cy⟩:=hy
   obtain⟨hu,hs⟩:=TD.fits_arr (hT.fits hd)
   obtain⟨i,hi⟩: ∃i,P.info? e=some i:=by
    unfold fU at hs
    split at hs
    ·rename_i i hi;exact⟨i,hi⟩
    ·cases hs
   cases hde:bB.find T e with
   | none=>
    cases f with
    | zero=>cases hf
    | succ f=>unfold sU at hf;rw [hde] at hf;cases hf
   | some d=>
    have hes:=xb hT hde hs
    subst hes
    have hc:P.cellsOf e=d.size:=by
     have:=TD.fits_size (hT.fits hde)
     unfold fU at this
     rw [hi] at this
     simp at this
     simp [Program.cellsOf,hi,this]
    have hseg: ∀(zs:List Value),zs.length=n * d.size→∀i,i < n→((zs.drop (i * d.size)).take d.size).length=d.size:=by
     intro zs hz i hi
     rw [a₇,c₂,hz]
     have:(i + 1) * d.size≤n * d.size:=c₈ _ hi
     rw [f₄] at this
     omega
    obtain⟨b,hr,hb⟩:=yC hT hde (D:=D) (xs:=xs) (ys:=ys) (is:=List.range n) (fun i hi=>by
     have hi:=h₈.1 hi
     exact⟨hseg xs lx i hi,hseg ys ly i hi,xc hT f hf om (cx i hi) (cy i hi)⟩)
    refine⟨b,fun w=>?_,?_⟩
    ·have:=run_equalIn_array (P:=P) w D (t:=t) (e:=e) (n:=n) (i:=i) ⟨xs⟩ ⟨ys⟩ hu hi
     rw [hc] at this
     exact this.trans (hr w)
    ·rw [hb]
     constructor
     ·intro h
      exact Js hpos lx ly fun i hi=>h i (h₈.2 hi)
     ·rintro rfl i _;rfl
  ·rename_i fs sz hd
   simp only [a₁,h₂] at h
   obtain⟨⟨⟨hst,hnm⟩,hsg⟩,hfl⟩:=h
   rw [hd] at hx hy ⊢
   obtain⟨lx,cx⟩:=hx
   obtain⟨ly,cy⟩:=hy
   obtain⟨fields,hu,hfs,_,_⟩:=TD.fits_struct (hT.fits hd)
   have hfo:P.fieldsOf t=fields:=by simp [Program.fieldsOf,hu]
   have hu':P.underlying t=some (.struct (P.fieldsOf t)):=by rw [hfo];exact hu
   have mem: ∀g∈fields.toList,(g.offset,g.type)∈fs:=by
    intro g hg
    rw [← hfs]
    exact f₆.2 ⟨g,hg,rfl⟩
   obtain⟨b,hr,hb⟩:=vG hT (D:=D) (xs:=xs) (ys:=ys) (fs:=(P.fieldsOf t).toList) (fun g hg=>by
    refine⟨by simpa using b₇.1 hnm g hg,?_⟩
    rw [hfo] at hg
    have hm:=mem g hg
    obtain⟨d,hdg,hcx⟩:=qv cx _ hm
    obtain⟨d',hdg',hcy⟩:=qv cy _ hm
    rw [hdg] at hdg'
    injection hdg' with e
    subst e
    exact⟨d,hdg,yB hdg hcx,yB hdg hcy,xc hT f (b₇.1 hfl _ hm) om hcx hcy⟩)
   refine⟨b,fun w=>?_,?_⟩
   ·exact(run_equalIn_agg w D t ⟨xs⟩ ⟨ys⟩ hu' hst).trans (hr w)
   ·rw [hb]
    constructor
    ·intro h
     refine Cw lx ly hsg sm fun x hx d hdx=>?_
     rw [← hfs] at hx
     obtain⟨g,hg,rfl⟩:=f₆.1 hx
     rw [← hfo] at hg
     exact h g hg d hdx
    ·rintro rfl f _ d _;rfl
  ·cases h
theorem yD (hT:cB P T) {t:TypeId} {d:TD} (hd:bB.find T t=some d) (ha:d.agg=true) (hf:sU P T 9 t=true) (hg:P.eqGuardType P.depth t=false) (x y:Operand) {xs ys:List Value} (hx:jG T 9 t xs) (hy:jG T 9 t ys) :
  ∃b:Bool,(∀w,(do eqGuard .eql t x y (.agg ⟨xs⟩) (.agg ⟨ys⟩);binOp .eql t (.agg ⟨xs⟩) (.agg ⟨ys⟩):Sem Value).run P w= .ok (.bool b) w)∧
   (∀w,(do eqGuard .neq t x y (.agg ⟨xs⟩) (.agg ⟨ys⟩);binOp .neq t (.agg ⟨xs⟩) (.agg ⟨ys⟩):Sem Value).run P w= .ok (.bool (!b)) w)∧(b=true↔xs=ys):=by
 obtain⟨b,hr,hb⟩:=xc hT 9 hf (D:=10000) (by decide) hx hy
 unfold vF at hr
 rw [hd] at hr
 simp only [ha] at hr
 refine⟨b,fun w=>?_,fun w=>?_,hb⟩
 ·rw [Sem.run_bind,run_eqGuard_agg w .eql t x y _ _ hg,Result.andThen_ok,run_eql_struct,hr];rfl
 ·rw [Sem.run_bind,run_eqGuard_agg w .neq t x y _ _ hg,Result.andThen_ok,run_neq_struct,hr];rfl
end
end
section
def bj (A:Type):Type:=(A→Prop)→Prop
def bj.ret {A:Type} (a:A):bj A:=fun K=>K a
def bj.bad {A:Type}:bj A:=fun _=>False
def bj.ask {A α:Type} (o:Option α) (k:α→bj A):bj A:=fun K=> ∃a,o=some a∧k a K
def bj.prf {A:Type} (p:Prop) (_:Decidable p) (k:bj A):bj A:=fun K=>p∧k K
def bj.br {A:Type} (t:Bool) (x y:bj A):bj A:=fun K=>(t=true→x K)∧(t=false→y K)
def bj.bind {A B:Type} (x:bj A) (f:A→bj B):bj B:=fun K=>x fun a=>f a K
def bj.runP {A:Type} (x:bj A) (K:A→Prop):Prop:=x K
theorem bj.bind_runP {A B:Type} {f:A→bj B} {K:B→Prop} {x:bj A}:(x.bind f).runP K↔x.runP fun a=>(f a).runP K:=Iff.rfl
abbrev VE:=List (Nat×MV)
abbrev VM:=List (Nat×MB)
def VE.get:VE→Nat→Option MV
 | [],_=>none
 | (j,v) :: E,i=>bif a₂ j i then some v else VE.get E i
def VM.get:VM→Nat→Option MB
 | [],_=>none
 | (j,v) :: E,i=>bif a₂ j i then some v else VM.get E i
def VM.del:VM→Nat→VM
 | [],_=> []
 | (j,v) :: M,i=>bif a₂ j i then VM.del M i else(j,v) :: VM.del M i
def VM.upd:VM→Nat→List MV→VM
 | [],_,_=> []
 | (j,v) :: M,i,l=>bif a₂ j i then(j,{ v with l:=l }) :: VM.upd M i l else(j,v) :: VM.upd M i l
def VM.bump1:VM→Nat→Nat→VM
 | [],_,_=> []
 | (j,v) :: M,i,n=>bif a₂ j i then(j,{ v with pe:=Nat.max v.pe n }) :: VM.bump1 M i n else(j,v) :: VM.bump1 M i n
def VM.bump:VM→List (Nat×Nat)→VM
 | M,[] =>M
 | M,(c,n) :: l=>VM.bump (VM.bump1 M c n) l
inductive Dl where
 | none
 | new (b:MB)
 | upd (c:Nat) (l:List MV)
 | mv (c:Nat) (b:MB)
 | bump (l:List (Nat×Nat))
def dk:FM→List (Nat×Nat)→FM
 | m,[] =>m
 | m,(c,n) :: l=>dk (match m c with | some b=>aO m c { b with pe:=Nat.max b.pe n } | none=>m) l
def Dl.appF (cnt:Nat):Dl→FM→FM
 | .none,m=>m
 | .new b,m=>aO m cnt b
 | .upd c l,m=>match m c with | some b=>aO m c { b with l:=l } | Option.none=>m
 | .mv c b,m=>aO (iT m c) cnt b
 | .bump l,m=>dk m l
def Dl.app (cnt:Nat):Dl→VM→VM
 | .none,M=>M
 | .new b,M=>(cnt,b) :: M
 | .upd c l,M=>VM.upd M c l
 | .mv c b,M=>(cnt,b) :: VM.del M c
 | .bump l,M=>VM.bump M l
def A3:Value→Option MV
 | .int k n=>some (.int k n)
 | .bool b=>some (.bool b)
 | .string s=>some (.str s.data.toList)
 | .pointer none=>some .nilp
 | .slice none 0 0=>some .nils
 | .nilFunc=>some .nilf
 | .nilIface=>some .nili
 | .func (.func f) ⟨[]⟩ ⟨[]⟩=>some (.fn f [])
 | _=>none
def iV (E:Nat→Option MV):Operand→Option MV
 | .tmp t=>E t
 | .const v=>A3 v
 | .global g=>some (.gp g 0)
 | .func f=>some (.fn f [])
def rd {A:Type} (E:Nat→Option MV) (x:Operand) (k:MV→bj A):bj A:=match iV E x with | some m=>k m | none=> .bad
def mS {A:Type} (E:Nat→Option MV):List Operand→(List MV→bj A)→bj A
 | [],k=>k []
 | x :: l,k=>rd E x fun m=>mS E l fun r=>k (m :: r)
def Jt {A:Type} (E:Nat→Option MV):Option Operand→(Option MV→bj A)→bj A
 | none,k=>k none
 | some x,k=>rd E x fun m=>k (some m)
def repM:Nat→MV→List MV
 | 0,_=> []
 | n + 1,z=>z :: repM n z
def im (T:bB):Nat→Nat→Option MV
 | 0,_=>none
 | f + 1,t=>match bB.find T t with
  | some (.int k)=>some (.int k 0)
  | some .bool=>some (.bool false)
  | some .str=>some (.str [])
  | some .ptr=>some .nilp
  | some .iface=>some .nili
  | some .fn=>some .nilf
  | some (.slice ..)=>some .nils
  | some (.arr n e es)=>match im T f e with
   | some z=>bif z.idFree && a₂ z.size es then some (.arr n es (repM n z)) else none
   | none=>none
  | some (.struct fs _)=>match fs.foldr (fun x r=>match r,im T f x.2 with | some r,some z=>some (z :: r) | _,_=>none) (some []) with
   | some l=>some (.st l)
   | none=>none
  | _=>none
def Ju:Bool→Bool→Bool
 | true,true=>true
 | false,false=>true
 | _,_=>false
def MV.isVal:MV→Bool
 | .tup _=>false
 | .mpv .. =>false
 | .undef=>false
 | _=>true
def fits (d:TD) (v:MV):Bool:=(v.isVal && a₂ v.size d.size) && Ju v.isAgg d.agg
def val {A α:Type} (x:α) (k:α→bj A):bj A:= .ask (some x) k
def F9 (op:BinOp) (k:IntKind) (m n:Int):bj MV:=match op with
 | .add=>val (k.wrap (m + n)) fun r=> .ret (.int k r)
 | .sub=>val (k.wrap (m - n)) fun r=> .ret (.int k r)
 | .mul=>val (k.wrap (m * n)) fun r=> .ret (.int k r)
 | .quo=> .prf (n≠0) inferInstance (val (k.wrap (m.tdiv n)) fun r=> .ret (.int k r))
 | .rem=> .prf (n≠0) inferInstance (val (m.tmod n) fun r=> .ret (.int k r))
 | .eql=> .ret (.bool (m == n))
 | .neq=> .ret (.bool (m !=n))
 | .lss=> .ret (.bool (decide (m < n)))
 | .leq=> .ret (.bool (decide (m≤n)))
 | .gtr=> .ret (.bool (decide (n < m)))
 | .geq=> .ret (.bool (decide (n≤m)))
 | .shl=> .prf (0≤n) inferInstance (val (k.wrap (m * 2 ^ (min n.toNat k.bits))) fun r=> .ret (.int k r))
 | .shr=> .prf (0≤n) inferInstance (val (m.fdiv (2 ^ (min n.toNat k.bits))) fun r=> .ret (.int k r))
 | .and=>val (k.wrap (BitVec.ofInt k.bits m &&& BitVec.ofInt k.bits n).toNat) fun r=> .ret (.int k r)
 | .or=>val (k.wrap (BitVec.ofInt k.bits m ||| BitVec.ofInt k.bits n).toNat) fun r=> .ret (.int k r)
 | .xor=>val (k.wrap (BitVec.ofInt k.bits m ^^^ BitVec.ofInt k.bits n).toNat) fun r=> .ret (.int k r)
 | .andNot=>val (k.wrap (BitVec.ofInt k.bits m &&& ~~~BitVec.ofInt k.bits n).toNat) fun r=> .ret (.int k r)
def Jv (op:BinOp) (s t:List UInt8):bj MV:=match op with
 | .add=> .prf (s.length + t.length≤9223372036854775807) inferInstance (val (s ++ t) fun r=> .ret (.str r))
 | .eql=> .ret (.bool (s == t))
 | .neq=> .ret (.bool (!(s == t)))
 | .lss=> .ret (.bool (Op.bytesLess s t))
 | .leq=> .ret (.bool (Op.bytesLess s t || s == t))
 | .gtr=> .ret (.bool (!(Op.bytesLess s t || s == t)))
 | .geq=> .ret (.bool (!Op.bytesLess s t))
 | _=> .bad
def Ga (op:BinOp) (s t:Bool):bj MV:=match op with
 | .eql=> .ret (.bool (s == t))
 | .neq=> .ret (.bool (s !=t))
 | _=> .bad
mutual
def DZ:MV→MV→Option Bool
 | .int k a, .int j b=>match decide (k=j) with | true=>some (decide (a=b)) | false=>none
 | .bool a, .bool b=>some (a == b)
 | .str a, .str b=>some (a == b)
 | .st l, .st r=>r8 l r
 | .arr n es l, .arr n' es' r=>bif a₂ n n' && a₂ es es' then r8 l r else none
 | _,_=>none
def r8:List MV→List MV→Option Bool
 | [],[] =>some true
 | a :: l,b :: r=>match DZ a b,r8 l r with
  | some x,some y=>some (x && y)
  | _,_=>none
 | _,_=>none
end
mutual
def gf (T:bB):Nat→Nat→MV→Bool
 | 0,_,_=>false
 | f + 1,t,m=>match bB.find T t,m with
  | some (.int k), .int j _=>a₂ (DX j) (DX k)
  | some .bool, .bool _=>true
  | some .str, .str _=>true
  | some (.arr n e es), .arr n' es' l=>a₂ n n' && a₂ es es' && l.all (gf T f e)
  | some (.struct fs sz), .st l=>confMs T f fs 0 l sz
  | _,_=>false
def confMs (T:bB):Nat→List (Nat×TypeId)→Nat→List MV→Nat→Bool
 | _,[],o,[],sz=>a₂ o sz
 | f,(o',t) :: fs,o,m :: l,sz=>a₂ o o' && (match bB.find T t with | some d=>a₂ m.size d.size && gf T f t m && confMs T f fs (o + d.size) l sz | none=>false)
 | _,_,_,_,_=>false
end
def sV:Nat→MV→Option Bool
 | 0, .nilp=>some true
 | 0, .ptr .. =>some false
 | 0, .gp .. =>some false
 | 0, .ep .. =>some false
 | 1, .nils=>some true
 | 1, .sl (_ + 1) _=>some false
 | 2, .nili=>some true
 | 2, .ifc .. =>some false
 | _,_=>none
def A4 (n:Nat) (j:Int):Option Nat:=if 0≤j∧j < (n:Int) then some j.toNat else none
def bF (l:List MV) (n:Nat) (j:Int):Option MV:=if 0≤j∧j < (n:Int) then l[j.toNat]? else none
def yE (s:List UInt8) (j:Int):Option UInt8:=if 0≤j then s[j.toNat]? else none
def dz (n:Nat) (lo hi:Option MV):Option (Nat×Nat):=
 match (match hi with | none=>some n | some (.int _ h)=>if 0≤h∧h≤(n:Int) then some h.toNat else none | _=>none) with
 | none=>none
 | some h=>match (match lo with | none=>some 0 | some (.int _ l)=>if 0≤l∧l≤(h:Int) then some l.toNat else none | _=>none) with
  | none=>none
  | some l=>some (l,h)
def kM:List MV→Option (List UInt8)
 | [] =>some []
 | .int .u8 n :: l=>if 0≤n∧n < 256 then(match kM l with | some r=>some (UInt8.ofNat n.toNat :: r) | none=>none) else none
 | _ :: _=>none
def aY:List MV→Nat→Bool
 | [],_=>true
 | m :: _,es=>a₂ m.size es
def cutL (l:List MV) (a b:Nat):List MV:=(l.drop a).take (b - a)
def u8s (s:List UInt8):List MV:=s.map fun b=> .int .u8 b.toNat
section
variable (P:Program) (T:bB) (E:Nat→Option MV) (M:FM) (cnt:Nat)
mutual
def dA:MV→bj (MV×List (Nat×Nat))
 | .ms c es off n=>match M c with
  | some b=>match b.row && a₂ b.es es with
   | true=> .prf (off + n≤b.l.length) inferInstance (val (cutL b.l off (off + n)) fun l=> .ret (.sl n l,[(c,off + n)]))
   | false=> .bad
  | none=> .bad
 | .nils=> .ret (.sl 0 [],[])
 | .st l=>(gg l).bind fun r=> .ret (.st r.1,r.2)
 | .fn f l=>(gg l).bind fun r=> .ret (.fn f r.1,r.2)
 | .ifc t v=>(dA v).bind fun r=> .ret (.ifc t r.1,r.2)
 | .ptr c es k fo path=>match M c with
  | some b=>bif a₂ b.es es then .ask (bW b.l k) fun v=>(bif v.idFree then .ret (.ep v fo path,[(c,k + 1)]) else .bad) else .bad
  | none=> .bad
 | .tup _=> .bad
 | .undef=> .bad
 | .mp _=> .bad
 | .mpv .. => .bad
 | m=> .ret (m,[])
def gg:List MV→bj (List MV×List (Nat×Nat))
 | [] => .ret ([],[])
 | m :: l=>(dA m).bind fun x=>(gg l).bind fun r=> .ret (x.1 :: r.1,x.2 ++ r.2)
end
def pureA (m:MV):bj (MV×Dl):= .ret (m, .none)
def gG (t:TypeId) (p:MV):bj (MV×Dl):=match bB.find T t with
 | none=> .bad
 | some d=>match p with
  | .ptr c es k fo path=>match M c with
   | some b=>bif a₂ b.es es then .ask (bW b.l k) fun m=> .ask (fc m path fo) fun r=>(bif fits d r then pureA r else .bad) else .bad
   | none=> .bad
  | .ep v fo path=> .ask (fc v path fo) fun r=>bif fits d r then pureA r else .bad
  | _=> .bad
def fZ (t:TypeId) (p v:MV):bj (MV×Dl):=match bB.find T t with
 | none=> .bad
 | some d=>match p with
  | .ptr c es k fo path=>match M c with
   | some b=>bif a₂ b.es es && fits d v && (!b.row || v.idFree) then .prf (b.pe≤k) inferInstance (.ask (bW b.l k) fun m=> .ask (ff m path fo v) fun m'=>val (setL b.l k m') fun l=> .ret (.undef, .upd c l)) else .bad
   | none=> .bad
  | _=> .bad
def gq (t:TypeId) (p:MV) (f:Nat):bj (MV×Dl):=match bB.find T t with
 | some (.struct fs _)=>match Jo fs f with
  | some (o,_)=>match p with
   | .ptr c es k fo path=>pureA (.ptr c es k (fo + o) (path ++ [f]))
   | .ep v fo path=>pureA (.ep v (fo + o) (path ++ [f]))
   | .gp g off=>pureA (.gp g (off + o))
   | _=> .bad
  | none=> .bad
 | _=> .bad
def gr (t:TypeId) (x j:MV):bj (MV×Dl):=match bB.find T t with
 | some (.slice _ es)=>match x,j with
  | .sl n l, .int _ j=> .ask (bF l n j) fun m=>bif a₂ m.size es then pureA (.ep m 0 []) else .bad
  | .ms c es' off n, .int _ j=>bif a₂ es' es then .ask (A4 n j) fun k=>pureA (.ptr c es (off + k) 0 []) else .bad
  | _,_=> .bad
 | some (.arr n _ es)=>match x,j with
  | .ptr c es' k fo path, .int _ j=> .ask (A4 n j) fun i=>pureA (.ptr c es' k (fo + i * es) (path ++ [i]))
  | .ep v fo path, .int _ j=> .ask (A4 n j) fun i=>pureA (.ep v (fo + i * es) (path ++ [i]))
  | .gp g off, .int _ j=> .ask (A4 n j) fun i=>pureA (.gp g (off + i * es))
  | _,_=> .bad
 | _=> .bad
def nU (t:TypeId) (x j:MV):bj (MV×Dl):=match bB.find T t,x,j with
 | some .str, .str s, .int _ j=> .ask (yE s j) fun c=>pureA (.int .u8 c.toNat)
 | some (.arr n e es), .arr n' es' l, .int _ j=>match bB.find T e with
  | some d=>bif a₂ n n' && a₂ es es' then .ask (bF l n j) fun m=>(bif fits d m then pureA m else .bad) else .bad
  | none=> .bad
 | _,_,_=> .bad
def nV (t:TypeId) (x:MV) (f:Nat):bj (MV×Dl):=match bB.find T t,x with
 | some (.struct fs _), .st l=>match Jo fs f,bW l f with
  | some (o,ft),some m=>match bB.find T ft with
   | some d=>bif fits d m && a₂ (fa l f) o then pureA m else .bad
   | none=> .bad
  | _,_=> .bad
 | _,_=> .bad
def nW (t:TypeId) (x:MV) (lo hi:Option MV):bj (MV×Dl):=match bB.find T t,x with
 | some .str, .str s=> .ask (dz s.length lo hi) fun r=>val ((s.drop r.1).take (r.2 - r.1)) fun u=>pureA (.str u)
 | some (.slice _ es), .sl n l=> .ask (dz n lo hi) fun r=> .prf (aY l es=true) inferInstance (val (cutL l r.1 r.2) fun u=>val (r.2 - r.1) fun k=>pureA (.sl k u))
 | some (.slice _ es), .ms c es' off n=>bif a₂ es es' then .ask (dz n lo hi) fun r=>(val (r.2 - r.1) fun k=>pureA (.ms c es (off + r.1) k)) else .bad
 | some (.slice _ _), .nils=> .ask (dz 0 lo hi) fun _=>pureA .nils
 | _,_=> .bad
def fg (t:TypeId) (x:MV) (lo hi:Option MV):bj (MV×Dl):=match bB.find T t,x with
 | some (.arr n _ es), .ptr c _ k fo path=>match M c with
  | some b=>match b.l with
   | [.arr n' es' l] =>bif a₂ k 0 && a₂ fo 0 && path.isEmpty && a₂ n n' && a₂ es es' then .ask (dz n lo hi) fun r=>val (cutL l r.1 r.2) fun u=>val (r.2 - r.1) fun j=> .ret (.sl j u, .bump [(c,1)]) else .bad
   | _=> .bad
  | none=> .bad
 | _,_=>nW T t x lo hi
def fC (l:List MV):List (Nat×MV)→Option (List MV)
 | [] =>some l
 | (i,v) :: r=>match bW l i with
  | some m=>bif a₂ v.size m.size && Ju v.isAgg m.isAgg then fC (setL l i v) r else none
  | none=>none
def lI:List MV→List Nat→Bool
 | [],[] =>true
 | m :: l,n :: ns=>a₂ m.size n && lI l ns
 | _,_=>false
def nX (t:TypeId) (parts:List (Nat×MV)):bj (MV×Dl):=match im T 9 t,w4 T t with
 | some (.st l),some ns=>bif lI l ns && parts.all (fun p=>p.2.isVal) then(match fC l parts with
  | some l'=>pureA (.st l')
  | none=> .bad) else .bad
 | some (.arr n es l),some ns=>bif lI l ns && parts.all (fun p=>p.2.isVal && p.2.idFree) then(match fC l parts with
  | some l'=>pureA (.arr n es l')
  | none=> .bad) else .bad
 | _,_=> .bad
def dR (t:TypeId) (n:Nat) (parts:List (Nat×MV)):bj (MV×Dl):=match bB.find T t with
 | some (.slice e es)=>match n with
  | 0=>match parts with
   | [] => .ret (.ms cnt es 0 0, .new ⟨e,es,true,0,[]⟩)
   | _=> .bad
  | n + 1=>match im T 9 e with
   | some z=>bif a₂ z.size es && f₃ 0 es && d₃ ((n + 1) * es) 16777216 && z.idFree && parts.all (fun p=>p.2.isVal) then(match fC (repM (n + 1) z) parts with
    | some l=> .ret (.ms cnt es 0 (n + 1), .new ⟨e,es,parts.all (fun p=>p.2.idFree),0,l⟩)
    | none=> .bad) else .bad
   | none=> .bad
 | _=> .bad
def eH (t:TypeId) (c es' off k:Nat):bj (MV×Dl):=match bB.find T t with
 | some (.slice e es)=>match im T 9 e with
  | some z=>match M c with
   | some b=>bif a₂ z.size es && a₂ es 1 && z.idFree && !z.isAgg && b.row && a₂ b.es es' then .prf (off + k≤b.l.length) inferInstance (val (cutL b.l off (off + k)) fun l=> .ret (.ms cnt es 0 1, .mv c ⟨e,es,true,0,[.sl k l]⟩)) else .bad
   | none=> .bad
  | none=> .bad
 | _=> .bad
def mT (n:Nat) (ps:List (Nat×MV)):Option (Nat×Nat×Nat×Nat):=match n with
 | 1=>(match ps with
  | [(0, .ms c es off k)] =>some (c,es,off,k)
  | _=>none)
 | _=>none
def NB (t:TypeId):Bool:=sU P T 9 t && !P.eqGuardType P.depth t
def vi (b:Option Bool) (op:BinOp):bj (MV×Dl):=match b with
 | some b=>match op with
  | .eql=>pureA (.bool b)
  | .neq=>pureA (.bool (!b))
  | _=> .bad
 | none=> .bad
def LP (op:BinOp) (t:TypeId) (x y:MV):bj (MV×Dl):=match bB.find T t with
 | some d=>bif d.agg && fits d x && fits d y then .prf (NB P T t=true∧gf T 9 t x=true∧gf T 9 t y=true) inferInstance (.ask (DZ x y) fun b=>vi (some b) op) else .bad
 | none=> .bad
def D0 (op:BinOp) (t:TypeId) (yo:Operand) (x y:MV):bj (MV×Dl):=match y with
 | .int k' n=>match x with
  | .int k m=>bif oJ op || a₂ (DX k) (DX k') then(F9 op k m n).bind pureA else .bad
  | _=> .bad
 | .str u=>match x with
  | .str s=>(Jv op s u).bind pureA
  | _=> .bad
 | .bool u=>match x with
  | .bool s=>match bB.find T t with | some .bool=>(Ga op s u).bind pureA | _=> .bad
  | _=> .bad
 | .nilp=>match bB.find T t with
  | some .ptr=>vi (sV 0 x) op
  | _=> .bad
 | .nils=>match bB.find T t with
  | some (.slice ..)=>vi (sV 1 x) op
  | _=> .bad
 | .nili=>match bB.find T t,yo with
  | some .iface, .const _=>vi (sV 2 x) op
  | _,_=> .bad
 | y=>LP P T op t x y
def LR (op:UnOp) (x:MV):bj (MV×Dl):=match op,x with
 | .not, .bool b=>pureA (.bool (!b))
 | .xor, .int k n=>val (k.wrap (BitVec.ofInt k.bits (if k.signed then -1 else k.max) ^^^ BitVec.ofInt k.bits n).toNat) fun r=>pureA (.int k r)
 | .neg, .int k n=>val (k.wrap (0 - n)) fun r=>pureA (.int k r)
 | _,_=> .bad
def lJ (src dst:TypeId) (x:MV):bj (MV×Dl):=match bB.find T src,bB.find T dst,x with
 | some _,some (.int k), .int _ n=>val (k.wrap n) fun r=>pureA (.int k r)
 | some (.slice e _),some .str, .sl _n l=>match bB.find T e with
  | some (.int .u8)=> .ask (kM l) fun s=>pureA (.str s)
  | _=> .bad
 | some (.slice e _),some .str, .nils=>match bB.find T e with
  | some (.int .u8)=>pureA (.str [])
  | _=> .bad
 | some (.slice e _),some .str, .ms c es off n=>match bB.find T e,M c with
  | some (.int .u8),some b=>bif a₂ es 1 && a₂ b.es 1 then .prf (off + n≤b.l.length) inferInstance (.ask (kM (cutL b.l off (off + n))) fun s=>pureA (.str s)) else .bad
  | _,_=> .bad
 | some .str,some (.slice e _), .str s=>match bB.find T e with
  | some (.int .u8)=> .prf (s.length≤140737488355328) inferInstance (val (u8s s) fun l=>val s.length fun n=>pureA (.sl n l))
  | _=> .bad
 | _,_,_=> .bad
def gu (t:TypeId) (n m:MV):bj (MV×Dl):=match bB.find T t,n,m with
 | some (.slice e es), .int _ n, .int _ m=>match im T 9 e with
  | some z=>bif a₂ z.size es && f₃ 0 es && z.idFree then .prf (n=m) inferInstance (.ask (A4 140737488355328 n) fun k=> .ask ((P.info? e).map (·.bytes)) fun by_=> .prf (k * by_≤281474976710656) inferInstance (.ret (.ms cnt es 0 k, .new ⟨e,es,true,0,repM k z⟩))) else .bad
  | none=> .bad
 | _,_,_=> .bad
def oK (es:Nat) (y:MV) (k:Nat→List MV→bj (MV×Dl)):bj (MV×Dl):=match y with
 | .sl m l=> .prf (aY l es=true) inferInstance (k m l)
 | .nils=>k 0 []
 | .ms c es' off m=>match M c with
  | some b=>bif a₂ es es' && a₂ b.es es && b.row then .prf (off + m≤b.l.length) inferInstance (val (cutL b.l off (off + m)) fun l=>k m l) else .bad
  | none=> .bad
 | _=> .bad
def gk (ats:List TypeId) (x y:MV):bj (MV×Dl):=match ats with
 | [t,u] =>bif a₂ t u then(match bB.find T t with
  | some (.slice e es)=>match im T 9 e with
   | some z=>bif a₂ z.size es && f₃ 0 es then .ask ((P.info? e).map (·.bytes)) fun by_=>oK M es y fun m l=>(match x with
    | .nils=> .prf (m * by_≤140737488355328∧m≤maxLen) inferInstance (.ret (.ms cnt es 0 m, .new ⟨e,es,true,0,l⟩))
    | .ms c es' off n=>match M c with
     | some b=>bif a₂ off 0 && a₂ es es' && a₂ b.es es && b.row && a₂ b.ty e then .prf (b.l.length=n∧(n + m) * by_≤140737488355328∧n + m≤maxLen) inferInstance (val (b.l ++ l) fun r=>val (n + m) fun k=> .ret (.ms cnt es 0 k, .mv c ⟨e,es,true,b.pe,r⟩)) else .bad
     | none=> .bad
    | _=> .bad) else .bad
   | none=> .bad
  | _=> .bad) else .bad
 | _=> .bad
def Gb (t:Option TypeId) (x:MV):bj (MV×Dl):=match t.bind (bB.find T),x with
 | some .str, .str s=>val (s.length:Int) fun r=>pureA (.int .i64 r)
 | some (.slice ..), .sl n _=>pureA (.int .i64 n)
 | some (.slice ..), .nils=>pureA (.int .i64 0)
 | some (.slice ..), .ms _ _ _ n=>pureA (.int .i64 n)
 | some (.arr n _ _),_=>pureA (.int .i64 n)
 | _,_=> .bad
def Gc (c a b:MV):bj (MV×Dl):=match c with
 | .bool t=> .br t (pureA a) (pureA b)
 | _=> .bad
def kN (t:TypeId):bj (MV×Dl):=match bB.find T t,im T 9 t with
 | some d,some z=>bif fits d z then .ret (.ptr cnt d.size 0 0 [], .new ⟨t,d.size,false,0,[z]⟩) else .bad
 | _,_=> .bad
def yF (t:TypeId) (v:MV):bj (MV×Dl):=match bB.find T t with
 | some d=>bif fits d v then .ret (.ptr cnt d.size 0 0 [], .new ⟨t,d.size,false,0,[v]⟩) else .bad
 | none=> .bad
def jX (v:MV):bj (MV×Dl):=match v with
 | .ptr .. | .gp .. | .ep .. | .fn .. | .ifc .. =>pureA v
 | _=> .bad
def sW (t:TypeId) (v:MV):bj (MV×Dl):=match bB.find T t with
 | some .iface=> .bad
 | some .other=> .bad
 | some d=>bif fits d v then pureA (.ifc t v) else .bad
 | none=> .bad
def oL (fn:Fn) (first:Array Operand) (ys:List MV):bj (MV×Dl):=match fn,first.toList with
 | .func f,[] =>bif ys.all MV.isVal then pureA (.fn f ys) else .bad
 | _,_=> .bad
def lK (x:MV) (i:Nat):bj (MV×Dl):=match x with
 | .tup vs=>match bW vs i with | some m=>pureA m | none=> .bad
 | _=> .bad
def eI (b:Builtin) (ats:Array TypeId) (vs:List MV):bj (MV×Dl):=match b with
 | .len=>match vs with | [x] =>Gb T (ats[0]?) x | _=> .bad
 | .append=>match vs with | [x,y] =>gk P T M cnt ats.toList x y | _=> .bad
 | .min=>match vs with | [.int k x, .int _ y] =>val (if y < x then y else x) fun r=>pureA (.int k r) | _=> .bad
 | .max=>match vs with | [.int k x, .int _ y] =>val (if y > x then y else x) fun r=>pureA (.int k r) | _=> .bad
 | _=> .bad
def findM (s:List UInt8):List MV→Nat→Option (Option Nat)
 | [],_=>some none
 | .str x :: l,i=>bif s == x then some (some i) else findM s l (i + 1)
 | _ :: _,_=>none
def Jw (t:TypeId):Option TypeId:=match P.underlying t with
 | some (.map k e)=>(match P.underlying k with | some .string=>some e | _=>none)
 | _=>none
def Gd:Option Value→Bool
 | some (.agg _)=>true
 | _=>false
def su (t:TypeId):Option MV:=match im T 9 t with
 | some z=>bif Ju z.isAgg (Gd ((P.info? t).bind (·.zero))) then some z else none
 | none=>none
def yG (t:TypeId):bj (MV×Dl):= .ret (.mp cnt, .new ⟨t,0,false,0,[.mpv [] []]⟩)
def gl (t:TypeId) (m k x:MV):bj (MV×Dl):=match m,k with
 | .mp c, .str s=>match M c with
  | some b=>match b.l with
   | [.mpv ks vs] =>bif x.isVal && x.idFree then .prf (vs.length=ks.length) inferInstance (.ask (Jw P t) fun _=> .ask (findM s ks 0) fun r=>(match r with
    | none=>val [.mpv (ks ++ [.str s]) (vs ++ [x])] fun l=> .ret (.undef, .upd c l)
    | some i=>val [.mpv ks (setL vs i x)] fun l=> .ret (.undef, .upd c l))) else .bad
   | _=> .bad
  | none=> .bad
 | _,_=> .bad
def xd (ok:Bool) (v:MV) (b:Bool):MV:=match ok with
 | true=> .tup [v, .bool b]
 | false=>v
def gH (t:TypeId) (m k:MV) (ok:Bool):bj (MV×Dl):=match m,k with
 | .mp c, .str s=>match M c with
  | some b=>match b.l with
   | [.mpv ks vs] => .prf (vs.length=ks.length) inferInstance (.ask (Jw P t) fun e=> .ask (findM s ks 0) fun r=>(match r with
    | none=> .ask (su P T e) fun z=>pureA (xd ok z false)
    | some i=> .ask (bW vs i) fun v=>bif v.isVal then pureA (xd ok v true) else .bad))
   | _=> .bad
  | none=> .bad
 | _,_=> .bad
def yH (n:Int):Option Nat:=if 0≤n then some n.toNat else none
def sX (s:List UInt8) (pos:Nat):Option (Nat×Nat):=if pos < s.length then some (Utf8.decode ⟨s.toArray⟩ pos) else none
def nY (t:TypeId) (x:MV):bj (MV×Dl):=match bB.find T t,x with
 | some .str, .str s=> .ret (.ptr cnt 0 0 0 [], .new ⟨t,0,false,0,[.mpv [.str s] [.nilp, .int .i64 (0:Nat)]]⟩)
 | _,_=> .bad
def lB (x:MV) (isS:Bool):bj (MV×Dl):=match x,isS with
 | .ptr c 0 0 0 [],true=>match M c with
  | some b=>match b.l with
   | [.mpv [.str s] [.nilp, .int .i64 p]] => .ask (yH p) fun pos=>val (sX s pos) fun r=>(match r with
    | none=> .ret (.tup [.bool false], .upd c [.mpv [.str s] [.nilp, .int .i64 p]])
    | some (x,wd)=> .ret (.tup [.bool true, .int .i64 pos, .int .i32 x], .upd c [.mpv [.str s] [.nilp, .int .i64 (pos + wd:Nat)]]))
   | _=> .bad
  | none=> .bad
 | _,_=> .bad
def kO (t:TypeId) (ok:Bool) (v:MV):bj (MV×Dl):=match v,bB.find T t with
 | .ifc _ _,some .iface=> .bad
 | .ifc _ _,some .other=> .bad
 | .ifc t' u,some _=>match a₂ t' t with
  | true=>bif u.isVal then pureA (xd ok u true) else .bad
  | false=>bif ok then .ask (su P T t) fun z=>pureA (.tup [z, .bool false]) else .bad
 | _,_=> .bad
def iH (o:Oper):bj (MV×Dl):=match o.op with
 | .move x=>rd E x pureA
 | .assign x=>rd E x pureA
 | .pick c a b=>rd E c fun c=>rd E a fun a=>rd E b fun b=>Gc c a b
 | .alloc t=>kN T cnt t
 | .box t x=>rd E x fun v=>yF T cnt t v
 | .build t parts=>mS E (parts.toList.map (·.2)) fun vs=>nX T t ((parts.toList.map (·.1)).zip vs)
 | .buildSlice t n parts=>mS E (parts.toList.map (·.2)) fun vs=>match mT n ((parts.toList.map (·.1)).zip vs) with
  | some x=>eH T M cnt t x.1 x.2.1 x.2.2.1 x.2.2.2
  | none=>dR T cnt t n ((parts.toList.map (·.1)).zip vs)
 | .load t x=>rd E x fun p=>gG T M t p
 | .store t x y=>rd E x fun p=>rd E y fun v=>fZ T M t p v
 | .nilCheck x=>rd E x jX
 | .binOp op t x y _=>rd E x fun u=>rd E y fun v=>D0 P T op t y u v
 | .unOp op _ x=>rd E x fun v=>LR op v
 | .convert src dst x=>rd E x fun v=>lJ T M src dst v
 | .makeInterface t x=>rd E x fun v=>sW T t v
 | .makeFunc fn first captured=>mS E captured.toList fun ys=>oL fn first ys
 | .makeSlice t l c=>rd E l fun l=>rd E c fun c=>gu P T cnt t l c
 | .slice t x lo hi mx=>match mx with
  | none=>rd E x fun x=>Jt E lo fun lo=>Jt E hi fun hi=>fg T M t x lo hi
  | some _=> .bad
 | .fieldAddr t x f=>rd E x fun p=>gq T t p f
 | .field t x f=>rd E x fun v=>nV T t v f
 | .indexAddr t x ix=>rd E x fun v=>rd E ix fun i=>gr T t v i
 | .index t x ix=>rd E x fun v=>rd E ix fun i=>nU T t v i
 | .extract x i=>rd E x fun x=>lK x i
 | .makeMap t r=>match r with
  | none=>yG cnt t
  | some _=> .bad
 | .mapUpdate t m k x=>rd E m fun m=>rd E k fun k=>rd E x fun x=>gl P M t m k x
 | .lookup t m k ok=>rd E m fun m=>rd E k fun k=>gH P T M t m k ok
 | .typeAssert x _ t ok=>rd E x fun v=>kO P T t ok v
 | .range t x=>rd E x fun v=>nY T cnt t v
 | .next x isS=>rd E x fun v=>lB M v isS
 | .call c=>match c.callee with
  | .builtin b=>mS E c.args.toList fun vs=>eI P T M cnt b c.argTypes vs
  | _=> .bad
 | _=> .bad
end
end
section
def bI (w:World) (P:bT) (adr:fV) (m:FM) (cnt:Nat) (r:MV) (δ:Dl) (u:Value) (w':World):Prop:=
 ∃(P':bT) (adr':fV),aK w' P' adr' r u∧aX w' P' adr' (δ.appF cnt m)∧bG w w' P P' adr adr'∧(∀c,c≠cnt→adr' c=adr c)∧
  (∀g,adr' cnt=some g→w.heap.size≤g∨∃c,adr c=some g)∧cG (fun b=> ∃c,adr c=some b) w w'∧(∀b o,P' b o→P b o∨w.heap.size≤b∨∃c,adr c=some b)
def D8 (Pg:Program) (o:Oper) (a:Act) (w:World) (Q:Value→World→Prop):Prop:=
 (∃u w',(execOp a.eval o).run Pg w= .ok (.value u) w'∧Q u w')∨(∃w',(execOp a.eval o).run Pg w= .ok .skip w'∧Q undef w')
section
variable {Pg:Program} {T:bB} {w w':World} {P P':bT} {adr adr':fV} {m:FM} {cnt:Nat} {K:MV×Dl→Prop} {u v x y:Value} {r:MV}
theorem bI.pure (hI:aX w P adr m) (hn:adr cnt=none) (h:aK w P adr r u):bI w P adr m cnt r .none u w:=
 ⟨P,adr,h,hI,bG.refl _ _ _,fun _ _=>rfl,fun g (hg:adr cnt=some g)=>(by rw [hn] at hg;cases hg),cG.refl _ _,fun _ _ h=> .inl h⟩
theorem D8.val {o:Oper} {a:Act} {Q:Value→World→Prop} (s:Sem Value) (ho:execOp a.eval o=(do pure (.value (← s)))) (hr:s.run Pg w= .ok u w') (h:Q u w'):D8 Pg o a w Q:=
 .inl ⟨u,w',by rw [ho,Sem.run_bind,hr];rfl,h⟩
theorem D8.unit {o:Oper} {a:Act} {Q:Value→World→Prop} (s:Sem Unit) (ho:execOp a.eval o=(do s;pure .skip)) (hr:s.run Pg w= .ok () w') (h:Q undef w'):D8 Pg o a w Q:=
 .inr ⟨w',by rw [ho,Sem.run_bind,hr];rfl,h⟩
theorem sY {cs:List Value} (h:r.isAgg=true):valM r cs= .agg ⟨cs⟩:=by unfold valM;rw [h];rfl
theorem yI (h:r.isAgg=false) (v:Value):valM r [v] =v:=by unfold valM;rw [h];rfl
theorem aK.int_ {k:IntKind} {n:Int} (h:aK w P adr (.int k n) u):u= .int k n:=by cases h with | val cs h=>cases h;rfl
theorem aK.undef_ (h:aK w P adr .undef u):u=Go.undef:=by cases h with | val cs h=>cases h | undef=>rfl
theorem aK.bool_ {b:Bool} (h:aK w P adr (.bool b) u):u= .bool b:=by cases h with | val cs h=>cases h;rfl
theorem aK.str_ {s:List UInt8} (h:aK w P adr (.str s) u):u= .string ⟨s.toArray⟩:=by cases h with | val cs h=>cases h;rfl
theorem aK.nilp_ (h:aK w P adr .nilp u):u= .pointer none:=by cases h with | val cs h=>cases h;rfl
theorem aK.nils_ (h:aK w P adr .nils u):u= .slice none 0 0:=by cases h with | val cs h=>cases h;rfl
theorem aK.nili_ (h:aK w P adr .nili u):u= .nilIface:=by cases h with | val cs h=>cases h;rfl
theorem aK.gp_ {g o:Nat} (h:aK w P adr (.gp g o) u):u= .pointer (some ⟨g,o,none⟩):=by cases h with | val cs h=>cases h;rfl
theorem aK.ptr_ {c es k fo:Nat} {path:List Nat} (h:aK w P adr (.ptr c es k fo path) u): ∃g,adr c=some g∧u= .pointer (some ⟨g,k * es + fo,none⟩):=by
 cases h with | val cs h=>cases h with | ptr g h=>exact ⟨g,h,rfl⟩
theorem aK.ep_ {fo:Nat} {path:List Nat} (h:aK w P adr (.ep r fo path) u): ∃(b o:Nat) (vs:List Value),u= .pointer (some ⟨b,o + fo,none⟩)∧(∀(j:Nat) x,vs[j]? =some x→w.cell? ⟨b,o + j,none⟩=some x∧P b (o + j))∧cS w P noAdr r vs:=by
 cases h with | val cs h=>cases h with | ep b o vs hc hr=>exact ⟨b,o,vs,rfl,hc,hr⟩
theorem aK.sl_ {n:Nat} {l:List MV} (h:aK w P adr (.sl n l) u): ∃(A:Option Addr) (cap es:Nat) (parts:List (List Value)),u= .slice A n cap∧l.length=n∧parts.length=n∧(∀p∈parts,p.length=es)∧(A=none→n=0∧cap=0)∧n≤cap∧
  (n≠0→∃b o,A=some ⟨b,o,none⟩∧∀(j:Nat) x,parts.flatten[j]? =some x→w.cell? ⟨b,o + j,none⟩=some x∧P b (o + j))∧(∀(j:Nat) m p,l[j]? =some m→parts[j]? =some p→cS w P noAdr m p):=by
 cases h with | val cs h=>cases h with | sl A cap es parts h1 h2 h3 h4 h7 h5 h6=>exact ⟨A,cap,es,parts,rfl,h1,h2,h3,h4,h7,h5,h6⟩
theorem aK.ms_ {c es off n:Nat} (h:aK w P adr (.ms c es off n) u):(u= .slice none 0 0∧off=0∧n=0)∨∃g o cap,adr c=some g∧u= .slice (some ⟨g,o,none⟩) n cap∧(n≠0∨off=0→o=off * es)∧n≤cap∧cap≤maxLen∧
  ∃cur ty,w.heap[g]? =some (.cells cur ty (0,0))∧(off=0→cur.size=cap * es):=by
 cases h with | val cs h=>cases h with
  | ms0=>exact .inl ⟨rfl,rfl,rfl⟩
  | ms g o cap h1 h2 h3 h4 h5=>exact .inr ⟨g,o,cap,h1,rfl,h2,h3,h4,h5⟩
theorem aK.agg_ (h:aK w P adr r u) (ha:r.isAgg=true): ∃cs,cS w P adr r cs∧u= .agg ⟨cs⟩:=by
 cases h with
 | val cs h=>exact ⟨cs,h,sY ha⟩
 | undef=>cases ha
 | tup=>cases ha
theorem iq {d:TD} {r:MV} (h:fits d r=true):r.size=d.size∧r.isAgg=d.agg∧r.isVal=true:=by
 unfold fits at h;rw [a₁,a₁] at h;refine⟨a₀ h.1.2,?_,h.1.1⟩;have h2:=h.2;cases ha:r.isAgg <;> cases hb:d.agg <;> rw [ha,hb] at h2 <;> first | rfl | cases h2
theorem lL {d:TD} (h:aK w P adr r u) (hf:fits d r=true): ∃cs,cS w P adr r cs∧u=valM r cs∧cs.length=d.size:=by
 obtain⟨hs,_,hv⟩:=iq hf;cases h with
 | val cs h=>exact ⟨cs,h,rfl,by rw [h.size,hs]⟩
 | undef=>cases hv
 | tup=>cases hv
theorem vH (hT:cB Pg T) {t:TypeId} {d:TD} (hd:bB.find T t=some d) {b o:Nat} {cs:List Value} (hr:cS w P adr r cs) (hf:fits d r=true) (hc: ∀(j:Nat) x,cs[j]? =some x→w.cell? ⟨b,o + j,none⟩=some x) :
  (Instr.loadAt t (.pointer (some ⟨b,o,none⟩))).run Pg w= .ok (valM r cs) w:=by
 obtain⟨hs,ha,_⟩:=iq hf
 have hl:cs.length=d.size:=by rw [hr.size,hs]
 have hld:(loadVar t ⟨b,o,none⟩).run Pg w= .ok (valM r cs) w:=by
  cases hg:d.agg with
  | true=>
   rw [sY (by rw [ha,hg])]
   exact Pq hT hd hg hl (fun j v hv=>hc j v hv) (Below.refl _ _)
  | false=>
   have hra:r.isAgg=false:=by rw [ha,hg]
   obtain⟨v,rfl⟩:=hr.scalar hra
   rw [yI hra]
   have:=hc 0 v rfl
   exact Pp hT hd hg (o:=o) (j:=0) (p:=o) (cs:= [v]) (fun j x hx=>hc j x hx) rfl rfl (Below.refl _ _)
 simp only [Instr.loadAt,Instr.sureAddr,Sem.run_bind,Sem.run_pure,Result.andThen_ok]
 exact hld
theorem D9 {ks vs:List MV} {path:List Nat} {fo:Nat} {r:MV} (h:fc (.mpv ks vs) path fo=some r):r.isVal=false:=by
 cases path with
 | nil=>
  have h:(bif a₂ fo 0 then some (MV.mpv ks vs) else none)=some r:=h;cases hb:a₂ fo 0 with
  | false=>rw [hb] at h;cases h
  | true=>rw [hb] at h;injection h with h;subst h;rfl
 | cons i p=>simp [fc] at h
theorem yJ (hT:cB Pg T) {t:TypeId} {p:MV} (h:(gG T m t p).runP K) (hp:aK w P adr p u) (hI:aX w P adr m) :
  ∃r v,K (r, .none)∧(Instr.loadAt t u).run Pg w= .ok v w∧aK w P adr r v:=by
 unfold gG at h
 split at h
 ·exact h.elim
 rename_i d hd
 split at h
 ·rename_i c es k fo path
  split at h
  ·rename_i b hb
   cases hes:a₂ b.es es with
   | false=>rw [hes] at h;exact h.elim
   | true=>
    rw [hes] at h
    have hes:=a₀ hes
    obtain⟨x,hx,r,hr,h⟩:=h
    replace h:bj.runP (bif fits d r then pureA r else .bad) K:=h
    cases hf:fits d r with
    | false=>rw [hf] at h;exact h.elim
    | true=>
     rw [hf] at h
     obtain⟨g,hg,rfl⟩:=hp.ptr_
     rw [bS] at hx
     rcases hI.blk c b hb with h1 | ⟨g',h1,h2⟩
     ·rw [hg] at h1;cases h1.2.2.1
     ·rw [hg] at h1
      injection h1 with h1
      subst h1
      obtain⟨cur,parts,h3,h4,h5,h6,h7⟩:=h2.ofX hx (fun ks vs e=>by subst e;have:=D9 hr;rw [(iq hf).2.2] at this;cases this)
      obtain⟨q,hq⟩:=cZ h4 hx
      have hrep:cS w P adr x q:=by
       have:=h6 k x q hx hq
       cases hrow:b.row <;> rw [hrow] at this
       ·exact this
       ·exact this.ofNone
      obtain⟨pre,cs,post,e1,e2,h8⟩:=mQ hrep hr
      refine⟨r,_,h,vH hT hd h8 hf (fun j y hy=>?_), .val cs h8⟩
      have hlt:=(a₄.1 hq).1
      have hpre:(parts.take k).flatten.length=k * es:=by
       rw [aR (es:=b.es) fun x hx=>h5 x (b₄ hx),a₇,b₉ om,hes]
      have hfl:parts.flatten[k * es + fo + j]? =some y:=by
       rw [bU hq,e1,b₅,b₈ om,hpre]
       rw [b₅,b₅,b₈ om,b₂ (by have:=(a₄.1 hy).1;omega)]
       rw [show k * es + fo + j - k * es - pre.length=j by omega]
       exact hy
      rw [cell_of_row w g _ cur b.ty (0,0) h3]
      have:=dW h7 hfl
      simpa using this
  ·exact h.elim
 ·rename_i v0 fo path
  obtain⟨r,hr,h⟩:=h
  replace h:bj.runP (bif fits d r then pureA r else .bad) K:=h
  cases hf:fits d r with
  | false=>rw [hf] at h;exact h.elim
  | true=>
   rw [hf] at h
   obtain⟨b,o,vs,rfl,hc,hv⟩:=hp.ep_
   obtain⟨pre,cs,post,e1,e2,h8⟩:=mQ hv hr
   refine⟨r,_,h,vH hT hd h8 hf (fun j y hy=>?_), .val cs h8.ofNone⟩
   have:=(hc (fo + j) y (by rw [e1,b₅,b₈ om,b₂ (by have:=(a₄.1 hy).1;omega),show fo + j - pre.length=j by omega];exact hy)).1
   rw [show o + fo + j=o + (fo + j) by omega]
   exact this
 ·exact h.elim
end
end
section
section
variable {Pg:Program} {T:bB} {w w':World} {P P':bT} {adr adr':fV} {m:FM} {cnt:Nat} {K:MV×Dl→Prop} {u v x y:Value} {r:MV}
theorem Ea {cs:List Value} (h:cS w P adr r cs):(valM r cs).cells.size=cs.length:=by rw [← Array.length_toList,kJ h]
theorem Eb {ks vs:List MV} {path:List Nat} {fo:Nat} {v r:MV} (h:ff (.mpv ks vs) path fo v=some r) (hv:v.isVal=true):False:=by
 cases path with
 | nil=>
  have h:(bif a₂ fo 0 && a₂ v.size 0 then(match v.isAgg,false with | true,true | false,false=>some v | _,_=>none) else none)=some r:=h;cases hb:(a₂ fo 0 && a₂ v.size 0) with
  | false=>rw [hb] at h;cases h
  | true=>
   rw [hb] at h;rw [a₁] at hb;have h1:=a₀ hb.2;cases v with
   | st l=>simp [MV.isAgg] at h
   | arr n es l=>simp [MV.isAgg] at h
   | mpv=>cases hv
   | _=>simp [MV.size] at h1
 | cons i p=>simp [ff] at h
theorem A5 (hT:cB Pg T) {t:TypeId} {p q:MV} (h:(fZ T m t p q).runP K) (hp:aK w P adr p u) (hq:aK w P adr q v) (hI:aX w P adr m) (cnt:Nat) :
  ∃δ w',K (.undef,δ)∧(Instr.storeAt t u v).run Pg w= .ok () w'∧aX w' P adr (δ.appF cnt m)∧bG w w' P P adr adr∧cG (fun b=> ∃c,adr c=some b) w w':=by
 unfold fZ at h
 split at h
 ·exact h.elim
 rename_i d hd
 split at h
 ·rename_i c es k fo path
  split at h
  ·rename_i b hb
   cases hes:(a₂ b.es es && fits d q && (!b.row || q.idFree)) with
   | false=>rw [hes] at h;exact h.elim
   | true=>
    rw [hes] at h
    rw [a₁,a₁] at hes
    obtain⟨⟨hes,hf⟩,hrow⟩:=hes
    have hes:=a₀ hes
    obtain⟨hpe,x,hx,x',hx',l,hl,h⟩:=h
    injection hl with hl
    subst hl
    obtain⟨g,hg,rfl⟩:=hp.ptr_
    rw [bS] at hx
    obtain⟨cs,hcs,rfl,hcl⟩:=lL hq hf
    rcases hI.blk c b hb with h1 | ⟨g',h1,h2⟩
    ·rw [hg] at h1;cases h1.2.2.1
    ·rw [hg] at h1
     injection h1 with h1
     subst h1
     obtain⟨cur,parts,h3,h4,h5,h6,h7⟩:=h2.ofX hx (fun ks vs e=>by subst e;exact Eb hx' (iq hf).2.2)
     obtain⟨z,hz⟩:=cZ h4 hx
     have hcs':cS w P (if b.row then noAdr else adr) q cs:=by
      cases hr:b.row with
      | false=>exact hcs
      | true=>rw [hr] at hrow;exact hcs.free (by simpa using hrow)
     obtain⟨pre,old,post,e1,e2,e3,h8,h9,h10⟩:=qu (h6 k x z hx hz) hx' hcs'
     have hlt:=(a₄.1 hz).1
     have hpre:(parts.take k).flatten.length=k * es:=by
      rw [aR (es:=b.es) fun x hx=>h5 x (b₄ hx),a₇,b₉ om,hes]
     obtain⟨tl,htl⟩:=h7
     have hcurl:cur.toList=(parts.take k).flatten ++ (pre ++ old ++ post) ++ ((parts.drop (k + 1)).flatten ++ tl):=by
      rw [← htl,bU hz,e1];simp
     have hoff:((parts.take k).flatten ++ pre).length=k * es + fo:=by rw [a₅,hpre,e2]
     have hsize:cur.size=k * es + fo + old.length + post.length + ((parts.drop (k + 1)).flatten ++ tl).length:=by
      rw [← Array.length_toList,hcurl]
      simp only [a₅] at hoff ⊢
      omega
     have hst:=run_storeCells_at Pg g (k * es + fo) b.ty cs 0 cur w h3 om hcs.one
     have htake:cur.toList.take (k * es + fo + 0)=(parts.take k).flatten ++ pre:=by
      rw [hcurl,g₉,← hoff]
      rw [show (parts.take k).flatten ++ (pre ++ old ++ post) ++ ((parts.drop (k + 1)).flatten ++ tl)=((parts.take k).flatten ++ pre) ++ (old ++ post ++ ((parts.drop (k + 1)).flatten ++ tl)) by simp]
      exact e₂
     have hdrop:cur.toList.drop (k * es + fo + 0 + cs.length)=post ++ ((parts.drop (k + 1)).flatten ++ tl):=by
      rw [hcurl,g₉,← e3,← hoff]
      rw [show (parts.take k).flatten ++ (pre ++ old ++ post) ++ ((parts.drop (k + 1)).flatten ++ tl)=(((parts.take k).flatten ++ pre) ++ old) ++ (post ++ ((parts.drop (k + 1)).flatten ++ tl)) by simp]
      rw [← a₅]
      exact e₈
     rw [htake,hdrop] at hst
     have hw:=hI.write (b':={ b with l:=setL b.l k x' }) (by simp [setL_eq]) hb hg rfl rfl rfl h3 (cur':=((parts.take k).flatten ++ pre ++ cs ++ (post ++ ((parts.drop (k + 1)).flatten ++ tl))).toArray)
      (by simp only [c₀,a₅] at hoff hsize ⊢;omega)
      (fun o ho=>by
       have h11:=h2.pe o ho
       have h12:b.pe * b.es≤k * es:=by rw [hes];exact c₈ _ hpe
       have e4:cur[o]? =cur.toList[o]? :=sm
       rw [e4,hcurl]
       have e5:((parts.take k).flatten ++ pre ++ cs ++ (post ++ ((parts.drop (k + 1)).flatten ++ tl))).toArray[o]? =((parts.take k).flatten ++ pre ++ cs ++ (post ++ ((parts.drop (k + 1)).flatten ++ tl)))[o]? :=sm
       rw [e5]
       simp only [b₅]
       rw [b₂ om,b₂ om])
      (parts:=parts.set k (pre ++ cs ++ post)) (by simp [setL_eq,h4])
      (fun p hp=>by
       rcases f₂ hp with hp | rfl
       ·exact h5 p hp
       ·have:=h5 z (a₉ hz)
        rw [e1] at this
        simp only [a₅] at this ⊢
        show _=b.es
        omega)
      (fun j y z' hy hz'=>by
       have hy:(setL b.l k x')[j]? =some y:=hy
       rw [setL_eq] at hy
       rcases bV hy with ⟨rfl,rfl⟩ | ⟨hne,hy⟩
       ·rcases bV hz' with ⟨_,rfl⟩ | ⟨hne,_⟩
        ·exact h8
        ·exact absurd rfl hne
       ·rcases bV hz' with ⟨rfl,_⟩ | ⟨_,hz'⟩
        ·exact absurd rfl hne
        ·exact h6 j y z' hy hz')
      ⟨tl,by rw [jF hz];simp⟩
     refine⟨.upd c (setL b.l k x'),_,h,?_,?_,hw.2,?_⟩
     ·have hs2:=bD (TD.fits_size (hT.fits hd)) w
      simp only [Instr.storeAt,Instr.sureAddr,Sem.run_bind,Sem.run_pure,Result.andThen_ok,storeVar,hs2,Ea hcs,hcl]
      simp only [ne_eq,not_true_eq_false,if_false,kJ hcs]
      exact hst
     ·have e6:Dl.appF cnt (.upd c (setL b.l k x')) m=aO m c { b with l:=setL b.l k x' }:=by
       show(match m c with | some b=>_ | none=>m)=_
       rw [hb]
      rw [e6]
      exact hw.1
     ·exact⟨rfl,rfl,rfl,sm,fun b' hb' hne=>setRow_other _ _ _ _ fun e=>hne ⟨c,by rw [e];exact hg⟩⟩
  ·exact h.elim
 ·exact h.elim
theorem Ec (hT:cB Pg T) {t:TypeId} {p q:MV} (h:(fZ T m t p q).runP K) (hp:aK w P adr p u) (hq:aK w P adr q v) (hI:aX w P adr m) (hn:adr cnt=none) :
  ∃δ w',K (.undef,δ)∧(Instr.storeAt t u v).run Pg w= .ok () w'∧bI w P adr m cnt .undef δ undef w':=by
 obtain⟨δ,w',h1,h2,h3,h4,h5⟩:=A5 hT h hp hq hI cnt
 exact⟨δ,w',h1,h2,P,adr, .undef,h3,h4,fun _ _=>rfl,fun g hg=>(by rw [hn] at hg;cases hg),h5,fun _ _ h=> .inl h⟩
theorem vj (hT:cB Pg T) {t:TypeId} {p:MV} {f:Nat} (h:(gq T t p f).runP K) (hp:aK w P adr p u) :
  ∃r v,K (r, .none)∧(Instr.fieldAt t u f).run Pg w= .ok v w∧aK w P adr r v:=by
 unfold gq at h
 split at h
 ·rename_i fs sz hd
  have hf:=hT.fits hd
  split at h
  ·rename_i o ft hnth
   obtain⟨fields,hu,h3,h4,_⟩:=TD.fits_struct hf
   obtain⟨fd,hfd,ho⟩: ∃fd:Field,fields.toList[f]? =some fd∧fd.offset=o:=by
    rw [sM,← h3,b₁,d₀] at hnth
    obtain⟨fd,h5,h6⟩:=hnth
    exact⟨fd,h5,congrArg Prod.fst h6⟩
   have hfd':fields[f]? =some fd:=by simpa using hfd
   have hpos: ∃n,fU Pg fd.type n=true∧0 < n:=by
    have:=b₇.1 h4 fd (a₉ hfd)
    unfold wX at this
    split at this
    ·rename_i i hi
     exact⟨i.size,by simp [fU,hi],by simpa using this⟩
    ·cases this
   obtain⟨n,hn,hn0⟩:=hpos
   have key: ∀(w:World) (b off:Nat),(Instr.fieldAt t (.pointer (some ⟨b,off,none⟩)) f).run Pg w= .ok (.pointer (some ⟨b,off + o,none⟩)) w:=by
    intro w b off
    have hs:=bD hn w
    have hn1:n≠0:=om
    simp only [Instr.fieldAt,Instr.sureAddr,fieldPlace,Sem.run_bind,run_underlying hu,Result.andThen_ok,hfd',Sem.run_pure,hs,hn1,if_false,ho,Addr.add_mid]
   split at h
   ·obtain⟨g,hg,rfl⟩:=hp.ptr_
    refine⟨_,_,h,key _ _ _,?_⟩
    rw [f₀]
    exact .val [_] (.ptr g hg)
   ·obtain⟨b,o',vs,rfl,hc,hv⟩:=hp.ep_
    refine⟨_,_,h,key _ _ _,?_⟩
    rw [f₀]
    exact .val [_] (.ep b o' vs hc hv)
   ·rw [hp.gp_]
    exact⟨_,_,h,key _ _ _, .val [_] .gp⟩
   ·exact h.elim
  ·exact h.elim
 ·exact h.elim
theorem oM {n:Nat} {j:Int} {k:Nat} (h:A4 n j=some k):j=(k:Int)∧k < n:=by
 unfold A4 at h;split at h
 ·injection h with h;omega
 ·cases h
theorem yK {l:List MV} {n:Nat} {j:Int} {x:MV} (h:bF l n j=some x): ∃k:Nat,j=(k:Int)∧k < n∧l[k]? =some x:=by
 unfold bF at h;split at h
 ·exact⟨j.toNat,om,om,h⟩
 ·cases h
theorem vk (hT:cB Pg T) {t:TypeId} {p j:MV} (h:(gr T t p j).runP K) (hp:aK w P adr p u) (hj:aK w P adr j v) :
  ∃r y,K (r, .none)∧(Instr.indexAt t u v).run Pg w= .ok y w∧aK w P adr r y:=by
 unfold gr at h
 split at h
 ·rename_i e es hd
  obtain⟨hu,hs⟩:=TD.fits_slice (hT.fits hd)
  have key: ∀(A:Option Addr) (b o len cap k:Nat) (k0:IntKind),A=some ⟨b,o,none⟩→k < len→(Instr.indexAt t (.slice A len cap) (.int k0 (k:Int))).run Pg w= .ok (.pointer (some ⟨b,o + k * es,none⟩)) w:=by
   intro A b o len cap k k0 hA hk
   subst hA
   have hi:(0:Int)≤(k:Int)∧(k:Int) < (len:Int):=⟨om,om⟩
   simp only [Instr.indexAt,asIntOf,Sem.run_bind,Sem.run_pure,Result.andThen_ok,run_underlying hu,bD hs,hi,and_self,if_true,d₁,Addr.add_mid]
  split at h
  ·obtain⟨x,hx,h⟩:=h
   replace h:bj.runP (bif a₂ x.size es then pureA (.ep x 0 []) else .bad) K:=h
   cases hes:a₂ x.size es with
   | false=>rw [hes] at h;exact h.elim
   | true=>
    rw [hes] at h
    have hes:=a₀ hes
    rw [hj.int_]
    obtain⟨k,rfl,hk,hx⟩:=yK hx
    obtain⟨A,cap,es',parts,rfl,h1,h2,h3,h4,_,h5,h6⟩:=hp.sl_
    obtain⟨b,o,hA,hc⟩:=h5 om
    obtain⟨q,hq⟩:=cZ (h2.trans h1.symm) hx
    have hrep:=h6 k x q hx hq
    have hql:=h3 q (a₉ hq)
    have hee:es'=es:=by rw [← hql,hrep.size,hes]
    subst hee
    refine⟨_,_,h,key A b o _ cap k _ hA hk,?_⟩
    refine .val [_] ?_
    have:=cS.ep (w:=w) (P:=P) (adr:=adr) (v:=x) (fo:=0) (path:= []) b (o + k * es') q (fun j y hy=>?_) hrep
    ·simpa using this
    ·have hpre:(parts.take k).flatten.length=k * es':=by
      rw [aR (es:=es') fun x hx=>h3 x (b₄ hx),a₇,b₉ om]
     have hfl:parts.flatten[k * es' + j]? =some y:=by
      rw [bU hq,b₅,b₈ om,hpre,b₂ (by have:=(a₄.1 hy).1;omega),show k * es' + j - k * es'=j by omega]
      exact hy
     have:=hc _ y hfl
     rw [show o + k * es' + j=o + (k * es' + j) by omega]
     exact this
  ·rename_i c es' off n k1 j1
   cases hes:a₂ es' es with
   | false=>rw [hes] at h;exact h.elim
   | true=>
    rw [hes] at h
    have hes:=a₀ hes
    subst hes
    obtain⟨k,hk,h⟩:=h
    obtain⟨hk1,hk2⟩:=oM hk
    rw [hj.int_,hk1]
    rcases hp.ms_ with ⟨_,_,h0⟩ | ⟨g,o,cap,hg,rfl,ho,_⟩
    ·omega
    ·have ho:=ho (.inl om)
     subst ho
     refine⟨_,_,h,key _ g (off * es') _ cap k _ rfl hk2, .val [_] ?_⟩
     have:=cS.ptr (w:=w) (P:=P) (adr:=adr) (c:=c) (es:=es') (k:=off + k) (fo:=0) (path:= []) g hg
     rw [d₇,g₉] at this
     exact this
  ·exact h.elim
 ·rename_i len e es hd
  obtain⟨hu,hs⟩:=TD.fits_arr (hT.fits hd)
  have key: ∀(w:World) (b o k:Nat) (k0:IntKind),k < len→(Instr.indexAt t (.pointer (some ⟨b,o,none⟩)) (.int k0 (k:Int))).run Pg w= .ok (.pointer (some ⟨b,o + k * es,none⟩)) w:=by
   intro w b o k k0 hk
   have hi:(0:Int)≤(k:Int)∧(k:Int) < (len:Int):=⟨om,om⟩
   simp only [Instr.indexAt,Instr.sureAddr,asIntOf,Sem.run_bind,Sem.run_pure,Result.andThen_ok,run_underlying hu,bD hs,hi,and_self,if_true,d₁,Addr.add_mid]
  split at h
  ·obtain⟨k,hk,h⟩:=h
   obtain⟨hk1,hk2⟩:=oM hk
   rw [hj.int_,hk1]
   obtain⟨g,hg,rfl⟩:=hp.ptr_
   refine⟨_,_,h,key _ _ _ _ _ hk2,?_⟩
   rw [f₀]
   exact .val [_] (.ptr g hg)
  ·obtain⟨k,hk,h⟩:=h
   obtain⟨hk1,hk2⟩:=oM hk
   rw [hj.int_,hk1]
   obtain⟨b,o',vs,rfl,hc,hv⟩:=hp.ep_
   refine⟨_,_,h,key _ _ _ _ _ hk2,?_⟩
   rw [f₀]
   exact .val [_] (.ep b o' vs hc hv)
  ·obtain⟨k,hk,h⟩:=h
   obtain⟨hk1,hk2⟩:=oM hk
   rw [hj.int_,hk1,hp.gp_]
   exact⟨_,_,h,key _ _ _ _ _ hk2, .val [_] .gp⟩
  ·exact h.elim
 ·exact h.elim
end
end
section
section
variable {Pg:Program} {T:bB} {w w':World} {P P':bT} {adr adr':fV} {m:FM} {cnt:Nat} {K:MV×Dl→Prop} {u v x y:Value} {r:MV}
theorem yL (hT:cB Pg T) {t:TypeId} {d:TD} (hd:bB.find T t=some d) {pre cs post:List Value} (h:cS w P adr r cs) (hf:fits d r=true) (w0:World) {o:Nat} (ho:pre.length=o) :
  (part t ⟨pre ++ cs ++ post⟩ o).run Pg w0= .ok (valM r cs) w0:=by
 obtain⟨hs,ha,_⟩:=iq hf
 have hl:cs.length=d.size:=by rw [h.size,hs]
 have hsz:=bD (TD.fits_size (hT.fits hd)) w0
 subst ho
 cases hg:d.agg with
 | true=>
  rw [sY (by rw [ha,hg])]
  simp only [part,Sem.run_bind,TD.fits_agg (hT.fits hd),hg,Result.andThen_ok,if_true,hsz,Sem.run_pure]
  have:(⟨pre ++ cs ++ post⟩:Array Value).extract pre.length (pre.length + d.size)=⟨cs⟩:=by
   apply Array.toList_inj.1
   simp only [Array.toList_extract,g₈]
   rw [b₅,e₈,show pre.length + d.size - pre.length=d.size by omega,← hl,e₂]
  rw [this]
 | false=>
  have hra:r.isAgg=false:=by rw [ha,hg]
  obtain⟨v,rfl⟩:=h.scalar hra
  rw [yI hra]
  simp only [part,Sem.run_bind,TD.fits_agg (hT.fits hd),hg,Result.andThen_ok,c₃,if_false]
  have:(⟨pre ++ [v] ++ post⟩:Array Value)[pre.length]? =some v:=sm
  rw [this];rfl
theorem Ed (hT:cB Pg T) {t:TypeId} {p j:MV} (h:(nU T t p j).runP K) (hp:aK w P adr p u) (hj:aK w P adr j v) :
  ∃r y,K (r, .none)∧(Instr.index t u v).run Pg w= .ok y w∧aK w P adr r y:=by
 unfold nU at h
 split at h
 ·rename_i s k0 j hd
  obtain⟨c,hc,h⟩:=h
  have hu:=TD.fits_str (hT.fits hd)
  rw [hp.str_,hj.int_]
  refine⟨_, .int .u8 c.toNat,h,?_, .val [_] .int⟩
  unfold yE at hc
  split at hc
  ·rename_i h0
   have hb:(⟨s.toArray⟩:ByteArray)[j.toNat]? =some c:=by
    rw [← hc]
    have hlt:=(a₄.1 hc).1
    have:j.toNat < (⟨s.toArray⟩:ByteArray).size:=by simpa [ByteArray.size] using hlt
    rw [getElem?_pos (⟨s.toArray⟩:ByteArray) j.toNat this,a₃ hlt]
    rfl
   simp [Instr.index,asIntOf,run_underlying hu,h0,hb]
  ·cases hc
 ·rename_i n e es n' es' l k0 j hd
  split at h
  ·rename_i d hde
   cases hb:(a₂ n n' && a₂ es es') with
   | false=>rw [hb] at h;exact h.elim
   | true=>
    rw [hb] at h
    rw [a₁] at hb
    have e1:=a₀ hb.1
    have e2:=a₀ hb.2
    subst e1;subst e2
    obtain⟨x,hx,h⟩:=h
    replace h:bj.runP (bif fits d x then pureA x else .bad) K:=h
    cases hf:fits d x with
    | false=>rw [hf] at h;exact h.elim
    | true=>
     rw [hf] at h
     obtain⟨k,rfl,hk,hx⟩:=yK hx
     rw [hj.int_]
     obtain⟨cs,hcs,rfl⟩:=hp.agg_ rfl
     cases hcs with
     | arr parts h1 h2 h3 h4=>
      obtain⟨hu,hs⟩:=TD.fits_arr (hT.fits hd)
      obtain⟨q,hq⟩:=cZ (h2.trans h1.symm) hx
      have hrep:=(h4 k x q hx hq).ofNone (adr:=adr)
      have hpre:(parts.take k).flatten.length=k * es:=by
       rw [aR (es:=es) fun x hx=>h3 x (b₄ hx),a₇,b₉ om]
      refine⟨x,valM x q,h,?_, .val q hrep⟩
      have hi:(0:Int)≤(k:Int)∧(k:Int) < (n:Int):=⟨om,om⟩
      have hpr:=yL hT hde (pre:=(parts.take k).flatten) (post:=(parts.drop (k + 1)).flatten) hrep hf w hpre
      rw [← bU hq] at hpr
      simp only [Instr.index,asIntOf,Sem.run_bind,Sem.run_pure,Result.andThen_ok,run_underlying hu,hi,and_self,if_true,bD hs,d₁]
      exact hpr
  ·exact h.elim
 ·exact h.elim
theorem Ee (hT:cB Pg T) {t:TypeId} {p:MV} {f:Nat} (h:(nV T t p f).runP K) (hp:aK w P adr p u) :
  ∃r y,K (r, .none)∧(Instr.field t u f).run Pg w= .ok y w∧aK w P adr r y:=by
 unfold nV at h
 split at h
 ·rename_i fs sz l hd
  split at h
  ·rename_i o ft x hn hx
   split at h
   ·rename_i d hde
    cases hb:(fits d x && a₂ (fa l f) o) with
    | false=>rw [hb] at h;exact h.elim
    | true=>
     rw [hb] at h
     rw [a₁] at hb
     have ho:=a₀ hb.2
     obtain⟨fields,hu,hfs,_,_⟩:=TD.fits_struct (hT.fits hd)
     rw [sM] at hn
     rw [← hfs] at hn
     simp only [b₁,d₀] at hn
     obtain⟨fl,hfl,he⟩:=hn
     injection he with he1 he2
     subst he2
     have hfl':fields[f]? =some fl:=by simpa using hfl
     rw [bS] at hx
     obtain⟨cs,hcs,rfl⟩:=hp.agg_ rfl
     cases hcs with
     | st parts h2 h4=>
      obtain⟨q,hq⟩:=cZ h2 hx
      have hrep:=h4 f x q hx hq
      have hpre:(parts.take f).flatten.length=fl.offset:=by
       rw [kK h2 fun j m p h1 h2=>(h4 j m p h1 h2).size,ho,← he1]
      refine⟨x,valM x q,h,?_, .val q hrep⟩
      have hpr:=yL hT hde (pre:=(parts.take f).flatten) (post:=(parts.drop (f + 1)).flatten) hrep hb.1 w hpre
      rw [← bU hq] at hpr
      simp only [Instr.field,Sem.run_bind,Result.andThen_ok,run_underlying hu,hfl',asAgg,Sem.run_pure]
      exact hpr
   ·exact h.elim
  ·exact h.elim
 ·exact h.elim
theorem jh {n:Nat} {lo hi:Option MV} {l h:Nat} (hb:dz n lo hi=some (l,h)):l≤h∧h≤n∧(hi=none∧h=n∨∃k,hi=some (.int k h))∧(lo=none∧l=0∨∃k,lo=some (.int k l)):=by
 have h1: ∀{hi:Option MV} {h:Nat},(match hi with | none=>some n | some (.int _ h)=>if 0≤h∧h≤(n:Int) then some h.toNat else none | _=>none)=some h→h≤n∧(hi=none∧h=n∨∃k,hi=some (.int k h)):=by
  intro hi h he;split at he
  ·injection he with he;exact⟨om, .inl ⟨rfl,he.symm⟩⟩
  ·rename_i k j;split at he
   ·injection he with he
    refine⟨om, .inr ⟨k,?_⟩⟩;rw [← he];congr;omega
   ·cases he
  ·cases he
 have h2: ∀{lo:Option MV} {l h:Nat},(match lo with | none=>some 0 | some (.int _ l)=>if 0≤l∧l≤(h:Int) then some l.toNat else none | _=>none)=some l→l≤h∧(lo=none∧l=0∨∃k,lo=some (.int k l)):=by
  intro lo l h he;split at he
  ·injection he with he;exact⟨om, .inl ⟨rfl,he.symm⟩⟩
  ·rename_i k j;split at he
   ·injection he with he
    refine⟨om, .inr ⟨k,?_⟩⟩;rw [← he];congr;omega
   ·cases he
  ·cases he
 unfold dz at hb;split at hb
 ·cases hb
 ·rename_i h' he;split at hb
  ·cases hb
  ·rename_i l' le;injection hb with hb
   injection hb with e1 e2
   subst e1;subst e2;obtain⟨a1,a2⟩:=h1 he;obtain⟨b1,b2⟩:=h2 le;exact⟨b1,a1,a2,b2⟩
def kP (w:World) (P:bT) (adr:fV):Option MV→Option Value→Prop
 | none,none=>True
 | some m,some v=>aK w P adr m v
 | _,_=>False
theorem kP.bnd {lo:Option MV} {vo:Option Value} {l d:Nat} (h:kP w P adr lo vo) (hl:lo=none∧l=d∨∃k,lo=some (.int k l)):vo=none∧l=d∨∃j,vo=some (.int j (l:Int)):=by
 rcases hl with ⟨rfl,e⟩ | ⟨k,rfl⟩
 ·cases vo with
  | none=>exact .inl ⟨rfl,e⟩
  | some v=>exact h.elim
 ·cases vo with
  | none=>exact h.elim
  | some v=>have h:aK w P adr (.int k l) v:=h;exact .inr ⟨k,by rw [h.int_]⟩
theorem dP {es:Nat} {parts:List (List Value)} (hes: ∀p∈parts,p.length=es) (a n:Nat) {j:Nat} {x:Value} (h:((parts.drop a).take n).flatten[j]? =some x):a≤parts.length→parts.flatten[a * es + j]? =some x:=by
 intro ha;have e1:parts=parts.take a ++ ((parts.drop a).take n ++ (parts.drop a).drop n):=by rw [c₆,c₆]
 have hpre:(parts.take a).flatten.length=a * es:=by
  rw [aR (es:=es) fun x hx=>hes x (b₄ hx),a₇,b₉ ha]
 rw [e1,g₅,g₅,b₈ om,hpre,show a * es + j - a * es=j by omega,b₂ (a₄.1 h).1];exact h
theorem ji {l:List MV} {a b j:Nat} {x:MV} (h:(cutL l a b)[j]? =some x):l[a + j]? =some x∧j < b - a:=by
 unfold cutL at h;rw [c₄] at h;split at h
 ·rw [c₅] at h;exact⟨h,by assumption⟩
 ·cases h
theorem LS {n:Nat} {l:List MV} (h:aK w P adr (.sl n l) u) {a b es:Nat} (hab:a≤b) (hb:b≤n) (hh:aY l es=true) :
  ∃A cap,u= .slice A n cap∧n≤cap∧aK w P adr (.sl (b - a) (cutL l a b)) (.slice (if cap=a then A else A.map (·.add (a * es))) (b - a) (cap - a)):=by
 obtain⟨A,cap,es',parts,rfl,h1,h2,h3,h4,h7,h5,h6⟩:=h.sl_
 refine⟨A,cap,rfl,h7,?_⟩
 have hlen:(cutL l a b).length=b - a:=by unfold cutL;rw [a₇,c₂];omega
 have hes:n≠0→es'=es:=by
  intro h0
  cases l with
  | nil=>simp at h1;omega
  | cons x l=>
   have hx:=a₀ (show a₂ x.size es=true from hh)
   obtain⟨q,hq⟩:=cZ (l:=x :: l) (parts:=parts) (by rw [h2,h1]) (i:=0) rfl
   have:=(h6 0 x q rfl hq).size
   rw [← hx,← this,h3 q (a₉ hq)]
 refine .val [_] (.sl _ _ es' ((parts.drop a).take (b - a)) hlen (by rw [a₇,c₂];omega) (fun p hp=>h3 p (g₂ (b₄ hp))) ?_ om ?_ ?_)
 ·intro hA
  have:A=none:=by
   split at hA
   ·exact hA
   ·cases A with
    | none=>rfl
    | some x=>cases hA
  have:=h4 this
  omega
 ·intro h0
  obtain⟨b',o,hA,hc⟩:=h5 om
  subst hA
  have hee:=hes om
  subst hee
  by_cases hcap:cap=a
  ·omega
  ·rw [if_neg hcap]
   refine⟨b',o + a * es',by simp [Addr.add_mid],fun j x hx=>?_⟩
   have:=hc _ x (dP h3 a (b - a) hx om)
   rw [show o + a * es' + j=o + (a * es' + j) by omega]
   exact this
 ·intro j x p hx hp
  obtain⟨hx,hj⟩:=ji hx
  rw [c₄,if_pos hj,c₅] at hp
  exact h6 _ x p hx hp
theorem Ef (hT:cB Pg T) {t:TypeId} {p:MV} {lo hi:Option MV} {vl vh:Option Value} (h:(nW T t p lo hi).runP K) (hp:aK w P adr p u) (hl:kP w P adr lo vl) (hh:kP w P adr hi vh) :
  ∃r y,K (r, .none)∧(Instr.sliceAt t u vl vh none).run Pg w= .ok y w∧aK w P adr r y:=by
 unfold nW at h
 split at h
 ·rename_i s hd
  have hu:=TD.fits_str (hT.fits hd)
  obtain⟨⟨l,e⟩,hb,x,hx,h⟩:=h
  injection hx with hx
  subst hx
  obtain⟨h1,h2,h3,h4⟩:=jh hb
  have hsz:(⟨s.toArray⟩:ByteArray).size=s.length:=by simp [ByteArray.size]
  rw [hp.str_]
  refine⟨_, .string ⟨((s.drop l).take (e - l)).toArray⟩,h,?_, .val [_] .str⟩
  rw [run_sliceAt_string _ _ _ _ _ _ hu]
  have hbd:=ek (P:=Pg) (b:=false) (kP.bnd hl h4) (kP.bnd hh (d:=(⟨s.toArray⟩:ByteArray).size) (by rw [hsz];exact h3)) h1 (show e≤(⟨s.toArray⟩:ByteArray).size by omega) w
  simp only [Instr.slice,Sem.run_bind,run_underlying hu,Result.andThen_ok,Option.isSome_none,c₃,if_false,hbd,Sem.run_pure]
  have hx:(⟨s.toArray⟩:ByteArray).extract l e=⟨((s.drop l).take (e - l)).toArray⟩:=by
   apply ByteArray.ext
   simp [ByteArray.data_extract,g₈]
  rw [hx]
 ·rename_i e0 es n l hd
  obtain⟨hu,hs⟩:=TD.fits_slice (hT.fits hd)
  obtain⟨⟨a,b⟩,hb,hhd,x,hx,k,hk,h⟩:=h
  injection hx with hx
  injection hk with hk
  subst hx;subst hk
  obtain⟨h1,h2,h3,h4⟩:=jh hb
  obtain⟨A,cap,rfl,h5,h6⟩:=LS hp h1 h2 hhd
  refine⟨_,_,h,?_,h6⟩
  have hu':Pg.underlying t=some (.slice (Pg.elem t)):=by rw [hu];simp [Program.elem,hu]
  rw [run_sliceAt_slice _ _ _ _ _ _ hu']
  simp [Instr.slice,run_underlying hu,ek (kP.bnd hl h4) (kP.bnd hh h3) h1 (show b≤cap by omega),bD hs]
 ·rename_i e0 es c es' off n hd
  obtain⟨hu,hs⟩:=TD.fits_slice (hT.fits hd)
  cases hes:a₂ es es' with
  | false=>rw [hes] at h;exact h.elim
  | true=>
   rw [hes] at h
   have hes:=a₀ hes
   subst hes
   obtain⟨⟨a,b⟩,hb,k,hk,h⟩:=h
   injection hk with hk
   subst hk
   obtain⟨h1,h2,h3,h4⟩:=jh hb
   have hu':Pg.underlying t=some (.slice (Pg.elem t)):=by rw [hu];simp [Program.elem,hu]
   rcases hp.ms_ with ⟨rfl,rfl,rfl⟩ | ⟨g,o,cap,hg,rfl,ho,h5,h6,cur,ty,h7,h8⟩
   ·obtain rfl:b=0:=om
    obtain rfl:a=0:=om
    refine⟨_, .slice none 0 0,h,?_, .val [_] .ms0⟩
    rw [run_sliceAt_slice _ _ _ _ _ _ hu']
    simp [Instr.slice,run_underlying hu,ek (kP.bnd hl h4) (kP.bnd hh h3) h1 (show 0≤0 by omega),bD hs]
   ·refine⟨_, .slice (if cap=a then some ⟨g,o,none⟩ else some ⟨g,o + a * es,none⟩) (b - a) (cap - a),h,?_,?_⟩
    ·rw [run_sliceAt_slice _ _ _ _ _ _ hu']
     simp [Instr.slice,run_underlying hu,ek (kP.bnd hl h4) (kP.bnd hh h3) h1 (show b≤cap by omega),bD hs,Addr.add_mid]
    ·by_cases hca:cap=a
     ·rw [if_pos hca]
      refine .val [_] (.ms g o (cap - a) hg (fun hor=>?_) om om ⟨cur,ty,h7,fun h0=>?_⟩)
      ·have:off=0∧a=0:=om
       rw [ho (.inr this.1),this.2];rfl
      ·have:off=0∧a=0:=om
       rw [h8 this.1,this.2];rfl
     ·rw [if_neg hca]
      refine .val [_] (.ms g (o + a * es) (cap - a) hg (fun hor=>?_) om om ⟨cur,ty,h7,fun h0=>?_⟩)
      ·rw [ho om,d₇]
      ·have:off=0∧a=0:=om
       rw [h8 this.1,this.2];rfl
 ·rename_i e0 es hd
  obtain⟨hu,hs⟩:=TD.fits_slice (hT.fits hd)
  obtain⟨⟨a,b⟩,hb,h⟩:=h
  obtain⟨h1,h2,h3,h4⟩:=jh hb
  obtain rfl:b=0:=om
  obtain rfl:a=0:=om
  rw [hp.nils_]
  have hu':Pg.underlying t=some (.slice (Pg.elem t)):=by rw [hu];simp [Program.elem,hu]
  refine⟨_, .slice none 0 0,h,?_, .val [_] .nils⟩
  rw [run_sliceAt_slice _ _ _ _ _ _ hu']
  simp [Instr.slice,run_underlying hu,ek (kP.bnd hl h4) (kP.bnd hh h3) h1 (show 0≤0 by omega),bD hs]
 ·exact h.elim
theorem LV {op:UnOp} {p:MV} (h:(LR op p).runP K) (hp:aK w P adr p u): ∃r y,K (r, .none)∧(Op.unary op u).run Pg w= .ok y w∧aK w P adr r y:=by
 unfold LR at h;split at h
 ·rw [hp.bool_];exact⟨_,_,h,rfl, .val [_] .bool⟩
 ·obtain⟨r,hr,h⟩:=h;injection hr with hr
  subst hr;rw [hp.int_];exact⟨_,_,h,rfl, .val [_] .int⟩
 ·obtain⟨r,hr,h⟩:=h;injection hr with hr
  subst hr;rw [hp.int_];exact⟨_,_,h,rfl, .val [_] .int⟩
 ·exact h.elim
theorem Jx (hT:cB Pg T) {ats:Array TypeId} {ty:TypeId} {p:MV} (h:(Gb T (ats[0]?) p).runP K) (hp:aK w P adr p u): ∃r y,K (r, .none)∧(Builtin.len_ ats ty #[u]).run Pg w= .ok y w∧aK w P adr r y:=by
 unfold Gb at h;cases ht:ats[0]? with
 | none=>rw [ht] at h;exact h.elim
 | some t=>
  rw [ht] at h;split at h
  ·rename_i s hd;have hu:=TD.fits_str (hT.fits (t:=t) hd);obtain⟨n,hn,h⟩:=h;injection hn with hn
   subst hn;rw [hp.str_];refine⟨_, .int .i64 s.length,h,?_, .val [_] .int⟩;have hsz:(⟨s.toArray⟩:ByteArray).size=s.length:=by simp [ByteArray.size]
   simp [Builtin.len_,ht,run_underlying hu,goInt,hsz]
  ·rename_i e es n l hd;obtain⟨hu,hs⟩:=TD.fits_slice (hT.fits (t:=t) hd);obtain⟨A,cap,es',parts,rfl,_⟩:=hp.sl_;refine⟨_, .int .i64 n,h,?_, .val [_] .int⟩;simp [Builtin.len_,ht,run_underlying hu,goInt]
  ·rename_i e es hd;obtain⟨hu,hs⟩:=TD.fits_slice (hT.fits (t:=t) hd);rw [hp.nils_];refine⟨_, .int .i64 0,h,?_, .val [_] .int⟩;simp [Builtin.len_,ht,run_underlying hu,goInt]
  ·rename_i e es c es' off n hd;obtain⟨hu,hs⟩:=TD.fits_slice (hT.fits (t:=t) hd);rcases hp.ms_ with ⟨rfl,rfl,rfl⟩ | ⟨g,o,cap,hg,rfl,_⟩
   ·refine⟨_, .int .i64 0,h,?_, .val [_] .int⟩;simp [Builtin.len_,ht,run_underlying hu,goInt]
   ·refine⟨_, .int .i64 n,h,?_, .val [_] .int⟩;simp [Builtin.len_,ht,run_underlying hu,goInt]
  ·rename_i n e es hd;obtain⟨hu,hs⟩:=TD.fits_arr (hT.fits (t:=t) hd);refine⟨_, .int .i64 n,h,?_, .val [_] .int⟩;simp [Builtin.len_,ht,run_underlying hu,goInt]
  ·exact h.elim
end
end
section
section
variable {Pg:Program} {T:bB} {w w':World} {P P':bT} {adr adr':fV} {m:FM} {cnt:Nat} {K:MV×Dl→Prop} {u v x y:Value} {r:MV}
theorem oN (n:Nat) (z:MV):repM n z=b₃ n z:=by
 induction n with
 | zero=>rfl
 | succ n ih=>simp [repM,ih,e₀]
theorem vJ {f:Nat} (ih: ∀t z,im T f t=some z→∃cs:List SV,(∀acc,cQ T f t acc=some (cs ++ acc))∧(∀w P,cS w P noAdr z (cs.map SV.den))∧z.isVal=true) :
  ∀(fs:List (Nat×TypeId)) (l:List MV),fs.foldr (fun x r=>match r,im T f x.2 with | some r,some z=>some (z :: r) | _,_=>none) (some [])=some l→
   ∃css:List (List SV),css.length=l.length∧(∀acc,fs.foldr (fun x r=>match r with | some a=>cQ T f x.2 a | none=>none) (some acc)=some (css.flatten ++ acc))∧
    ∀w P (j:Nat) m cs,l[j]? =some m→css[j]? =some cs→cS w P noAdr m (cs.map SV.den)
 | [],l,h=>by simp at h;subst h;exact⟨[],rfl,fun acc=>rfl,fun w P j m cs h=>by simp at h⟩
 | x :: fs,l,h=>by
  simp only [f₈] at h
  split at h
  ·rename_i r z hr hz
   injection h with h
   subst h
   obtain⟨css,h1,h2,h3⟩:=vJ ih fs r hr
   obtain⟨cs,h4,h5,_⟩:=ih x.2 z hz
   refine⟨cs :: css,by simp [h1],fun acc=>?_,fun w P j m c hj hc=>?_⟩
   ·simp only [f₈,h2,h4,b₀,b₅]
   ·cases j with
    | zero=>simp at hj hc;subst hj;subst hc;exact h5 w P
    | succ j=>exact h3 w P j m c (by simpa using hj) (by simpa using hc)
  ·cases h
theorem oO (css:List (List SV)):css.flatten.map SV.den=(css.map (List.map SV.den)).flatten:=by
 induction css with
 | nil=>rfl
 | cons a l ih=>simp [ih]
theorem fK: ∀(f t:Nat) (z:MV),im T f t=some z→∃cs:List SV,(∀acc,cQ T f t acc=some (cs ++ acc))∧(∀w P,cS w P noAdr z (cs.map SV.den))∧z.isVal=true
 | 0,t,z,h=>by simp [im] at h
 | f + 1,t,z,h=>by
  simp only [im] at h
  have one: ∀(c:SV) (z':MV),z'=z→z'.isVal=true→(∀acc,cQ T (f + 1) t acc=some (c :: acc))→(∀w P,cS w P noAdr z' [c.den])→∃cs:List SV,(∀acc,cQ T (f + 1) t acc=some (cs ++ acc))∧(∀w P,cS w P noAdr z (cs.map SV.den))∧z.isVal=true:=by
   intro c z' e h0 h1 h2
   subst e
   exact⟨[c],h1,h2,h0⟩
  split at h
  ·rename_i k hd;injection h with h;exact one (.val (.int k 0)) _ h rfl (fun acc=>by simp [cQ,hd]) (fun w P=> .int)
  ·rename_i hd;injection h with h;exact one (.val (.bool false)) _ h rfl (fun acc=>by simp [cQ,hd]) (fun w P=> .bool)
  ·rename_i hd;injection h with h;exact one (.val (.string ⟨#[]⟩)) _ h rfl (fun acc=>by simp [cQ,hd]) (fun w P=> .str)
  ·rename_i hd;injection h with h;exact one (.val (.pointer none)) _ h rfl (fun acc=>by simp [cQ,hd]) (fun w P=> .nilp)
  ·rename_i hd;injection h with h;exact one (.val .nilIface) _ h rfl (fun acc=>by simp [cQ,hd]) (fun w P=> .nili)
  ·rename_i hd;injection h with h;exact one (.val .nilFunc) _ h rfl (fun acc=>by simp [cQ,hd]) (fun w P=> .nilf)
  ·rename_i e es hd;injection h with h;exact one (.val (.slice none 0 0)) _ h rfl (fun acc=>by simp [cQ,hd]) (fun w P=> .nils)
  ·rename_i n e es hd
   split at h
   ·rename_i z0 hz0
    cases hb:(z0.idFree && a₂ z0.size es) with
    | false=>rw [hb] at h;cases h
    | true=>
     rw [hb] at h
     injection h with h
     subst h
     rw [a₁] at hb
     have hsz:=a₀ hb.2
     obtain⟨cs,h1,h2,_⟩:=fK f e z0 hz0
     refine⟨(b₃ n cs).flatten,fun acc=>?_,fun w P=>?_,rfl⟩
     ·have key: ∀k,(Nat.rec (some acc) (fun _ r=>match r with | some a=>cQ T f e a | none=>none) k:Option (List SV))=some ((b₃ k cs).flatten ++ acc):=by
       intro k
       induction k with
       | zero=>rfl
       | succ k ih=>
        show(match (Nat.rec (some acc) (fun _ r=>match r with | some a=>cQ T f e a | none=>none) k:Option (List SV)) with | some a=>cQ T f e a | none=>none)=_
        rw [ih]
        show cQ T f e _=_
        rw [h1,e₀,b₀,b₅]
      simp only [cQ,hd]
      exact key n
     ·rw [oO,h₀,oN]
      refine .arr _ sm sm (fun p hp=>?_) fun j x p hx hp=>?_
      ·rw [(b₆.1 hp).2,(h2 w P).size,hsz]
      ·rw [(b₆.1 (a₉ hx)).2,(b₆.1 (a₉ hp)).2]
       exact h2 w P
   ·cases h
  ·rename_i fs sz hd
   split at h
   ·rename_i l hl
    injection h with h
    subst h
    obtain⟨css,h1,h2,h3⟩:=vJ (fun t z h=>fK f t z h) fs l hl
    refine⟨css.flatten,fun acc=>by simp only [cQ,hd];exact h2 acc,fun w P=>?_,rfl⟩
    rw [oO]
    refine .st _ (by simp [h1]) fun j x p hx hp=>?_
    rw [b₁,d₀] at hp
    obtain⟨c,hc,rfl⟩:=hp
    exact h3 w P j x c hx hc
   ·cases h
  ·cases h
end
end
section
section
variable {Pg:Program} {T:bB} {w w':World} {P P':bT} {adr adr':fV} {m:FM} {cnt:Nat} {K:MV×Dl→Prop} {u v x y:Value} {r:MV}
def sZ (w:World) (P:bT) (adr:fV):List (Nat×MV)→List (Nat×Value)→Prop
 | [],[] =>True
 | (i,a) :: l,(j,b) :: s=>i=j∧aK w P adr a b∧sZ w P adr l s
 | _,_=>False
theorem aK.ofVal (h:aK w P adr r u) (hv:r.isVal=true): ∃cs,cS w P adr r cs∧u=valM r cs:=by
 cases h with
 | val cs h=>exact ⟨cs,h,rfl⟩
 | undef=>cases hv
 | tup=>cases hv
theorem rG {cs:List Value} (h:cS w P adr r cs):jg (valM r cs)=cs:=by rw [← qs,kJ h]
theorem Cy {α:Type}: ∀{l:List α} {n:Nat} (v:α),n < l.length→vf l n v=some (l.set n v)
 | [],_,_,h=>by simp at h
 | _ :: _,0,_,_=>rfl
 | x :: l,n + 1,v,h=>by
  simp only [vf,Cy v (show n < l.length by simpa using h)]
  rfl
theorem kQ {md:Bool}: ∀(ps:List (Nat×MV)) (pv:List (Nat×Value)) (l:List MV) (segs:List (List Value)) (l':List MV),sZ w P adr ps pv→fC l ps=some l'→(∀p∈ps,p.2.isVal=true∧(md=true→p.2.idFree=true))→segs.length=l.length→
  (∀(j:Nat) m p,l[j]? =some m→segs[j]? =some p→cS w P (if md then noAdr else adr) m p)→
  ∃segs',jD segs pv=some segs'∧segs'.length=l'.length∧l'.length=l.length∧(∀(j:Nat) m p,l'[j]? =some m→segs'[j]? =some p→cS w P (if md then noAdr else adr) m p)∧segs'.map a₈=segs.map a₈∧oI (segs.map a₈) pv
 | [],[],l,segs,l',_,h,_,hl,hr=>by
  simp [fC] at h;subst h
  exact⟨segs,rfl,hl,rfl,hr,rfl,trivial⟩
 | (i,a) :: ps,(j,b) :: pv,l,segs,l',hp,h,hv,hl,hr=>by
  obtain⟨rfl,hab,hp⟩:=hp
  simp only [fC] at h
  split at h
  ·rename_i m hm
   rw [bS] at hm
   cases hb:(a₂ a.size m.size && Ju a.isAgg m.isAgg) with
   | false=>rw [hb] at h;cases h
   | true=>
    rw [hb] at h
    rw [a₁] at hb
    have hsz:=a₀ hb.1
    obtain⟨cs,hcs,rfl⟩:=hab.ofVal (hv (i,a) sm).1
    obtain⟨q,hq⟩:=cZ hl hm
    have hql:=(hr i m q hm hq).size
    have hlt:=(a₄.1 hq).1
    have hcs':cS w P (if md then noAdr else adr) a cs:=by
     cases md with
     | false=>exact hcs
     | true=>exact hcs.free ((hv (i,a) sm).2 rfl)
    have hlen:(segs.set i cs).map a₈=segs.map a₈:=by
     apply d₂
     intro k
     simp only [b₁,e₃]
     split
     ·rename_i e
      subst e
      rw [hq]
      simp [hcs.size,hsz,hql]
     ·rfl
    obtain⟨segs',h1,h2,h3,h4,h5,h6⟩:=kQ (md:=md) ps pv (setL l i a) (segs.set i cs) l' hp h (fun p hp=>hv p (by simp [hp])) (by rw [setL_eq];simpa using hl) (fun k y z hy hz=>by
     rw [setL_eq] at hy
     rcases bV hy with ⟨rfl,rfl⟩ | ⟨hne,hy⟩
     ·rcases bV hz with ⟨_,rfl⟩ | ⟨hne,_⟩
      ·exact hcs'
      ·exact absurd rfl hne
     ·rcases bV hz with ⟨rfl,_⟩ | ⟨_,hz⟩
      ·exact absurd rfl hne
      ·exact hr k y z hy hz)
    refine⟨segs',?_,h2,by rw [h3,setL_eq];simp,h4,by rw [h5,hlen],?_⟩
    ·simp only [jD,rG hcs,Cy cs hlt]
     exact h1
    ·refine⟨?_,by rw [hlen] at h6;exact h6⟩
     rw [sM,rG hcs,b₁,hq]
     simp [hcs.size,hsz,hql]
  ·cases h
 | [],_ :: _,_,_,_,hp,_,_,_,_=>hp.elim
 | _ :: _,[],_,_,_,hp,_,_,_,_=>hp.elim
theorem rH {α:Type}: ∀{a b:List (List α)},a.map a₈=b.map a₈→a.flatten=b.flatten→a=b
 | [],[],_,_=>rfl
 | x :: a,y :: b,h,hf=>by
  simp only [e₅,List.cons.injEq] at h
  simp only [b₀] at hf
  obtain⟨h1,h2⟩:=h₆ hf h.1
  rw [h1,rH h.2 h2]
 | [],_ :: _,h,_=>by simp at h
 | _ :: _,[],h,_=>by simp at h
theorem qw: ∀{l:List MV} {ns:List Nat},lI l ns=true→l.map MV.size=ns
 | [],[],_=>rfl
 | m :: l,n :: ns,h=>by
  have h:(a₂ m.size n && lI l ns)=true:=h
  rw [a₁] at h
  rw [e₅,a₀ h.1,qw h.2]
 | [],_ :: _,h=>by cases h
 | _ :: _,[],h=>by cases h
theorem Cz {l:List MV} {parts:List (List Value)} {a:fV} (hp:parts.length=l.length) (hr: ∀(j:Nat) m p,l[j]? =some m→parts[j]? =some p→cS w P a m p):parts.map a₈=l.map MV.size:=by
 apply d₂;intro j;simp only [b₁];cases hj:l[j]? with
 | none=>rw [e₆ (by rw [hp];exact List.getElem?_eq_none_iff.1 hj)];rfl
 | some m=>
  obtain⟨q,hq⟩:=cZ hp hj;rw [hq];simp [(hr j m q hj hq).size]
theorem sum_flatten {α:Type} (l:List (List α)):l.flatten.length=(l.map a₈).sum:=by
 induction l with
 | nil=>rfl
 | cons a l ih=>simp
theorem Eg (hT:cB Pg T) {t:TypeId} {ps:List (Nat×MV)} {pv:List (Nat×Value)} (h:(nX T t ps).runP K) (hp:sZ w P adr ps pv) :
  ∃r y,K (r, .none)∧(Instr.build t pv.toArray).run Pg w= .ok y w∧aK w P adr r y:=by
 have core: ∀(l l':List MV) (ns:List Nat) (z:List SV) (parts:List (List Value)) (md:Bool),cQ T 9 t [] =some z→w4 T t=some ns→lI l ns=true→z.map SV.den=parts.flatten→parts.length=l.length→
   (∀(j:Nat) m p,l[j]? =some m→parts[j]? =some p→cS w P (if md then noAdr else adr) m p)→(∀p∈ps,p.2.isVal=true∧(md=true→p.2.idFree=true))→fC l ps=some l'→
   ∃segs':List (List Value),(Instr.build t pv.toArray).run Pg w= .ok (.agg ⟨segs'.flatten⟩) w∧segs'.length=l'.length∧l'.length=l.length∧(∀(j:Nat) m p,l'[j]? =some m→segs'[j]? =some p→cS w P (if md then noAdr else adr) m p)∧segs'.map a₈=ns:=by
  intro l l' ns z parts md hz hns hsz hzp hpl hr hv hset
  have hlens:=(Cz hpl hr).trans (qw hsz)
  obtain⟨segs',h1,h2,h3,h4,h5,h6⟩:=kQ ps pv l parts l' hp hset hv hpl hr
  have hcut:lA ns (z.map SV.den)=parts:=by
   obtain⟨c1,c2⟩:=nT ns (z.map SV.den) (by rw [hzp,sum_flatten,hlens])
   exact rH (by rw [c2,hlens]) (by rw [c1,hzp])
  have hb:w7 (M:= []) (H:= []) T t pv (fun sv _ _=>sv= .val (.agg (wZ segs').toArray)):=by
   unfold w7
   rw [hz,hns]
   have hl:a₂ z.length ns.sum=true:=by
    have:z.length=ns.sum:=by rw [← c₁ (f:=SV.den),hzp,sum_flatten,hlens]
    rw [this];exact Nat.beq_refl _
   show(match a₂ z.length ns.sum,jD (lA ns (z.map SV.den)) pv with | true,some segs=>_ | _,_=>False)
   rw [hl,hcut,h1]
   exact⟨by rw [← hlens];exact h6,rfl⟩
  obtain⟨sv,hrun,rfl⟩:=A2 (P:=Pg) hT hb
  refine⟨segs',?_,h2,h3,h4,h5.trans hlens⟩
  have:=hrun w ⟨fun i kb h=>by simp [F6.find] at h,fun i j ki kj h=>by simp [F6.find] at h,fun p hp=>by simp at hp,fun p hp=>by simp at hp⟩
  rw [this,den_val,Cv]
 unfold nX at h
 split at h
 ·rename_i l ns hz hns
  obtain⟨cs,h1,h2,_⟩:=fK 9 t _ hz
  have hz':=h1 []
  rw [c₉] at hz'
  have hrep:=h2 w P
  cases hb:(lI l ns && ps.all (fun p=>p.2.isVal)) with
  | false=>rw [hb] at h;exact h.elim
  | true=>
   rw [hb] at h
   rw [a₁,b₇] at hb
   simp only [cond_true] at h
   split at h
   ·rename_i l' hl'
    generalize hcs:cs.map SV.den=vs at hrep
    cases hrep with
    | st parts hp hr=>
     obtain⟨segs',a1,a2,a3,a4,a5⟩:=core l l' ns cs parts false hz' hns hb.1 hcs hp (fun j m p h1 h2=>(hr j m p h1 h2).ofNone) (fun p hp=>⟨hb.2 p hp,fun h=>nomatch h⟩) hl'
     exact⟨_,_,h,a1, .val (m:= .st l') _ (.st segs' a2 a4)⟩
   ·exact h.elim
 ·rename_i n es l ns hz hns
  obtain⟨cs,h1,h2,_⟩:=fK 9 t _ hz
  have hz':=h1 []
  rw [c₉] at hz'
  have hrep:=h2 w P
  cases hb:(lI l ns && ps.all (fun p=>p.2.isVal && p.2.idFree)) with
  | false=>rw [hb] at h;exact h.elim
  | true=>
   rw [hb] at h
   rw [a₁,b₇] at hb
   simp only [cond_true] at h
   split at h
   ·rename_i l' hl'
    generalize hcs:cs.map SV.den=vs at hrep
    cases hrep with
    | arr parts hln hp hes hr=>
     obtain⟨segs',a1,a2,a3,a4,a5⟩:=core l l' ns cs parts true hz' hns hb.1 hcs (hp.trans hln.symm) hr (fun p hp=>by have:=hb.2 p hp;rw [a₁] at this;exact⟨this.1,fun _=>this.2⟩) hl'
     refine⟨_,_,h,a1, .val (m:= .arr n es l') _ (.arr segs' (a3.trans hln) (by rw [a2,a3,hln]) (fun q hq=>?_) a4)⟩
     have h7:segs'.map a₈=parts.map a₈:=a5.trans ((Cz (hp.trans hln.symm) hr).trans (qw hb.1)).symm
     obtain⟨k,hk,rfl⟩:=d₅.1 hq
     have h8:(segs'.map a₈)[k]? =some (segs'[k].length):=by rw [b₁,a₃ hk];rfl
     rw [h7,b₁] at h8
     have hk2:k < parts.length:=by
      rw [show parts.length=(parts.map a₈).length by simp,← h7];simpa using hk
     rw [a₃ hk2] at h8
     simp at h8
     rw [← h8,hes _ (h₅ hk2)]
   ·exact h.elim
 ·exact h.elim
end
end
section
section
variable {Pg:Program} {T:bB} {w w':World} {P P':bT} {adr adr':fV} {m:FM} {cnt:Nat} {K:MV×Dl→Prop} {u v x y:Value} {r:MV}
theorem cG.weak {ex ex':Fp} {h w:World} (k:cG ex h w) (hx: ∀b,ex b→ex' b):cG ex' h w:=⟨k.os,k.tape,k.output,k.size,fun b hb he=>k.block b hb fun e=>he (hx b e)⟩
theorem bI.new (hI:aX w P adr m) (hn:adr cnt=none) (hm:m cnt=none) (hb:Below w.heap.size w w') {b:MB} {cur:Array Value} {parts:List (List Value)} (hg:w'.heap[w.heap.size]? =some (.cells cur b.ty (0,0))) (hpl:parts.length=b.l.length) (hpe: ∀p∈parts,p.length=b.es)
  (hr: ∀(j:Nat) x p,b.l[j]? =some x→parts[j]? =some p→cS w P (if b.row then noAdr else adr) x p) (hcur:parts.flatten <+:cur.toList) (hle:b.pe≤b.l.length) (hu:aK w' P (aO adr cnt w.heap.size) r u):bI w P adr m cnt r (.new b) u w':=by
 obtain⟨h1,h2⟩:=hI.new hn hm hb hg hpl hpe hr hcur hle
 refine⟨P,_,hu,h1,h2,fun c hc=>aJ _ _ hc,fun g hg=>?_,(cG.of_below hb).weak fun _ e=>e.elim,fun _ _ h=> .inl h⟩
 rw [aH] at hg
 injection hg with hg
 exact .inl (Nat.le_of_eq hg)
theorem Ge (hT:cB Pg T) (hI:aX w P adr m) (hn:adr cnt=none) (hm:m cnt=none) {t:TypeId} {d:TD} {z:MV} (hz:im T 9 t=some z) (hf:fits d z=true) :
  ∃y w',(Instr.alloc t true (.tuple #[])).run Pg w= .ok y w'∧bI w P adr m cnt (.ptr cnt d.size 0 0 []) (.new ⟨t,d.size,false,0,[z]⟩) y w':=by
 obtain⟨cs,h1,h2,_⟩:=fK 9 t _ hz
 have hz':=h1 []
 rw [c₉] at hz'
 obtain⟨v,hv,hc⟩:=hT.zero hz' w
 have hcells:v.cells=(cs.map SV.den).toArray:=by rw [← hc]
 have hrep:=h2 w P
 refine⟨.pointer (some ⟨w.heap.size,0,none⟩),w.alloc (.cells (cs.map SV.den).toArray t),by simp [Instr.alloc,hv,newVar,newRow,hcells],?_⟩
 refine bI.new hI hn hm (Below.alloc1 w _) (cur:=(cs.map SV.den).toArray) (parts:= [cs.map SV.den]) (heap_alloc_new w _) rfl (fun p hp=>?_) (fun j x p hx hp=>?_) ⟨[],sm⟩ (d₈ _) (.val [_] ?_)
 ·simp at hp;subst hp;rw [hrep.size,(iq hf).1]
 ·cases j with
  | zero=>simp at hx hp;subst hx;subst hp;exact hrep.ofNone
  | succ j=>simp at hx
 ·have:=cS.ptr (w:=w.alloc (.cells (cs.map SV.den).toArray t)) (P:=P) (adr:=aO adr cnt w.heap.size) (c:=cnt) (es:=d.size) (k:=0) (fo:=0) (path:= []) _ (aH _ _ _)
  simpa using this
theorem LW (hI:aX w P adr m) (hn:adr cnt=none) (hm:m cnt=none) {t:TypeId} {d:TD} {z:MV} (hf:fits d z=true) (hz:aK w P adr z v) :
  ∃y w',(Instr.box t v).run Pg w= .ok y w'∧bI w P adr m cnt (.ptr cnt d.size 0 0 []) (.new ⟨t,d.size,false,0,[z]⟩) y w':=by
 obtain⟨cs,hrep,rfl,hl⟩:=lL hz hf
 have hcells:(valM z cs).cells=cs.toArray:=Array.toList_inj.1 (kJ hrep)
 refine⟨.pointer (some ⟨w.heap.size,0,none⟩),w.alloc (.cells cs.toArray t),by simp [Instr.box,newVar,newRow,hcells],?_⟩
 refine bI.new hI hn hm (Below.alloc1 w _) (cur:=cs.toArray) (parts:= [cs]) (heap_alloc_new w _) rfl (fun p hp=>?_) (fun j x p hx hp=>?_) ⟨[],sm⟩ (d₈ _) (.val [_] ?_)
 ·simp at hp;subst hp;exact hl
 ·cases j with
  | zero=>simp at hx hp;subst hx;subst hp;exact hrep
  | succ j=>simp at hx
 ·have:=cS.ptr (w:=w.alloc (.cells cs.toArray t)) (P:=P) (adr:=aO adr cnt w.heap.size) (c:=cnt) (es:=d.size) (k:=0) (fo:=0) (path:= []) _ (aH _ _ _)
  simpa using this
theorem nZ (w:World) (c:Array Value) (t:TypeId) (P:bT) {n es:Nat} (hsz:c.size=n * es) (hn:n≤maxLen):aK (w.alloc (.cells c t)) P (aO adr cnt w.heap.size) (.ms cnt es 0 n) (.slice (some ⟨w.heap.size,0,none⟩) n n):=
 .val [_] (.ms w.heap.size 0 n (aH _ _ _) (fun _=>by simp) (e₉ _) hn ⟨c,t,heap_alloc_new w _,fun _=>hsz⟩)
theorem lM (hT:cB Pg T) (hI:aX w P adr m) (hn:adr cnt=none) (hm:m cnt=none) {t:TypeId} {n:Nat} {ps:List (Nat×MV)} {pv:List (Nat×Value)} (h:(dR T cnt t n ps).runP K) (hp:sZ w P adr ps pv) :
  ∃r δ y w',K (r,δ)∧(Instr.buildSlice t n pv.toArray).run Pg w= .ok y w'∧bI w P adr m cnt r δ y w':=by
 unfold dR at h
 split at h
 ·rename_i e es hd
  obtain⟨hu,hs⟩:=TD.fits_slice (hT.fits hd)
  split at h
  ·split at h
   ·have hpv:pv= [] :=by
     cases pv with
     | nil=>rfl
     | cons a l=>exact hp.elim
    subst hpv
    refine⟨_,_, .slice (some ⟨w.heap.size,0,none⟩) 0 0,w.alloc (.cells #[] e),h,?_,?_⟩
    ·simp only [Instr.buildSlice,Sem.run_bind,run_underlying hu,Result.andThen_ok,bD hs,newRow]
     simp [Instr.fill]
     rw [show Array.map (fun _:Nat=>(default:Value)) (Array.range 0)= #[] from Array.eq_empty_of_size_eq_zero sm]
    ·exact bI.new hI hn hm (Below.alloc1 w _) (cur:= #[]) (parts:= []) (heap_alloc_new w _) rfl (fun p hp=>by simp at hp) (fun j x p hx hp=>by simp at hp) ⟨[],rfl⟩ (d₈ _) (nZ w _ _ _ sm (by decide))
   ·exact h.elim
  ·rename_i n
   split at h
   ·rename_i z hz
    cases hb:(a₂ z.size es && f₃ 0 es && d₃ ((n + 1) * es) 16777216 && z.idFree && ps.all (fun p=>p.2.isVal)) with
    | false=>rw [hb] at h;exact h.elim
    | true=>
     rw [hb] at h
     simp only [a₁,b₇] at hb
     obtain⟨⟨⟨⟨hsz,hes⟩,hle⟩,hzf⟩,hv⟩:=hb
     have hsz:=a₀ hsz
     have hes:0 < es:=by simpa [g₁] using hes
     have hle:=c₇ hle
     simp only [cond_true] at h
     split at h
     ·rename_i l' hl'
      obtain⟨cs,h1,h2,_⟩:=fK 9 e _ hz
      have hz':=h1 []
      rw [c₉] at hz'
      obtain⟨zv,hzv,hzc⟩:=hT.zero hz' w
      have hzcells:zv.cells=(cs.map SV.den).toArray:=by rw [← hzc]
      have hrep:=h2 w P
      have hcl:cs.length=es:=by rw [← c₁ (f:=SV.den),hrep.size,hsz]
      have hl0:(repM (n + 1) z).length=n + 1:=by rw [oN];simp
      obtain⟨segs',a1,a2,a3,a4,a5,a6⟩:=kQ (md:=ps.all (fun p=>p.2.idFree)) ps pv (repM (n + 1) z) (b₃ (n + 1) (cs.map SV.den)) l' hp hl' (fun p hp=>⟨hv p hp,fun h=>b₇.1 h p hp⟩) (by rw [hl0];simp) (fun j x p hx hp=>by
       rw [oN] at hx
       rw [(b₆.1 (a₉ hx)).2,(b₆.1 (a₉ hp)).2]
       split
       ·exact hrep
       ·exact hrep.ofNone)
      have hlens:(b₃ (n + 1) (cs.map SV.den)).map a₈=b₃ (n + 1) es:=by rw [h₀,c₁,hcl]
      have hpl: ∀i k,(b₃ (n + 1) es)[i]? =some k→(fun i=>some (i * es,es):Nat→Option (Nat×Nat)) i=some (((b₃ (n + 1) es).take i).sum,k):=by
       intro i k hk
       rw [f₇] at hk
       split at hk
       ·injection hk with hk
        subst hk
        rw [g₃,f₉,b₉ om]
       ·cases hk
      have hfill:=qt hpl pv _ segs' hlens a1 (by rw [hlens] at a6;exact a6)
      have hall: ∀p∈segs',p.length=es:=by
       intro p hp
       have:p.length∈segs'.map a₈:=f₆.2 ⟨p,hp,rfl⟩
       rw [a5,hlens] at this
       exact(b₆.1 this).2
      have hsegl:segs'.length=n + 1:=by rw [a2,a3,hl0]
      have hcs0:=sR (n:=n + 1) (z:=cs) (zc:=zv.cells) hzcells hcl hes
      have hrepS:(rZ (n + 1) cs).map SV.den=(b₃ (n + 1) (cs.map SV.den)).flatten:=by
       have: ∀k,(rZ k cs).map SV.den=(b₃ k (cs.map SV.den)).flatten:=by
        intro k
        induction k with
        | zero=>rfl
        | succ k ih=>rw [rZ,h₇,ih,e₀,b₀]
       exact this _
      refine⟨_,_, .slice (some ⟨w.heap.size,0,none⟩) (n + 1) (n + 1),w.alloc (.cells segs'.flatten.toArray e),h,?_,?_⟩
      ·have hne: ¬ ((n + 1) * es=0):=by have:=Nat.mul_pos (show 0 < n + 1 by omega) hes;omega
       have hng: ¬ ((n + 1) * es > 2 ^ 24):=om
       simp only [Instr.buildSlice,Sem.run_bind,run_underlying hu,Result.andThen_ok,bD hs,if_neg hne,if_neg hng,hzv,Sem.run_pure,hcs0,hrepS,hfill,newRow]
       simp
      ·refine bI.new hI hn hm (Below.alloc1 w _) (cur:=segs'.flatten.toArray) (parts:=segs') (heap_alloc_new w _) a2 hall a4 ⟨[],sm⟩ (d₈ _) (nZ w _ _ _ ?_ ?_)
       ·rw [c₀,aR hall,hsegl]
       ·have:n + 1≤(n + 1) * es:=Nat.le_mul_of_pos_right _ hes
        unfold maxLen
        omega
     ·exact h.elim
   ·exact h.elim
 ·exact h.elim
theorem vn (hT:cB Pg T) (hI:aX w P adr m) (hn:adr cnt=none) (hm:m cnt=none) {t:TypeId} {p q:MV} (h:(gu Pg T cnt t p q).runP K) (hp:aK w P adr p u) (hq:aK w P adr q v) :
  ∃r δ y w',K (r,δ)∧(Instr.makeSlice t u v).run Pg w= .ok y w'∧bI w P adr m cnt r δ y w':=by
 unfold gu at h
 split at h
 ·rename_i e es k0 n k1 n' hd
  split at h
  ·rename_i z hz
   cases hb:(a₂ z.size es && f₃ 0 es && z.idFree) with
   | false=>rw [hb] at h;exact h.elim
   | true=>
    rw [hb] at h
    simp only [a₁] at hb
    obtain⟨⟨hsz,hes⟩,hzf⟩:=hb
    have hsz:=a₀ hsz
    obtain⟨rfl,k,hk,by_,hby,hbb,h⟩:=h
    obtain⟨hk1,hk2⟩:=oM hk
    subst hk1
    rw [hp.int_,hq.int_]
    obtain⟨cs,h1,h2,_⟩:=fK 9 e _ hz
    have hz':=h1 []
    rw [c₉] at hz'
    have hrep:=h2 w P
    have hcl:cs.length=es:=by rw [← c₁ (f:=SV.den),hrep.size,hsz]
    obtain⟨zv,hzv,hzc⟩:=hT.zero hz' w
    have hzcells:zv.cells=(cs.map SV.den).toArray:=by rw [← hzc]
    have hes:0 < es:=by simpa [g₁] using hes
    obtain⟨hu,hs⟩:=TD.fits_slice (hT.fits hd)
    cases hi:Pg.info? e with
    | none=>simp [hi] at hby
    | some it=>
     have hby':it.bytes=by_:=by simpa [hi] using hby
     have hszi:it.size=es:=by simpa [fU,hi] using hs
     have hit:it.zero=some zv:=by
      cases hv:it.zero with
      | none=>simp [zeroValue,typeInfo,hi,hv,unsupported] at hzv
      | some v=>simp [zeroValue,typeInfo,hi,hv] at hzv;rw [hzv]
     have hbytes:(it.bytes:Int) * (k:Int)≤281474976710656:=by
      rw [hby',← Int.natCast_mul,Nat.mul_comm];omega
     have hr:=run_make (P:=Pg) w t e it zv hu hi hit k0 k1 (k:Int) (k:Int) om (Int.le_refl _) hbytes om
     have hrs:=sR (n:=k) hzcells hcl hes
     have hrepS: ∀k,(rZ k cs).map SV.den=(b₃ k (cs.map SV.den)).flatten:=by
      intro k
      induction k with
      | zero=>rfl
      | succ k ih=>rw [rZ,h₇,ih,e₀,b₀]
     have hall: ∀p∈b₃ k (cs.map SV.den),p.length=es:=fun p hp=>by rw [(b₆.1 hp).2,c₁,hcl]
     refine⟨_,_, .slice (some ⟨w.heap.size,0,none⟩) k k,w.alloc (.cells (b₃ k (cs.map SV.den)).flatten.toArray e),h,?_,?_⟩
     ·rw [hr]
      simp only [madeCells,d₁,hszi,hzcells] at hrs ⊢
      rw [hrs,hrepS]
     ·refine bI.new hI hn hm (Below.alloc1 w _) (cur:=(b₃ k (cs.map SV.den)).flatten.toArray) (parts:=b₃ k (cs.map SV.den)) (heap_alloc_new w _) (by show _=(repM k z).length;rw [oN];simp) hall (fun j x p hx hp=>?_) ⟨[],sm⟩ (d₈ _) (nZ w _ _ _ ?_ ?_)
      ·have hx:(repM k z)[j]? =some x:=hx
       rw [oN] at hx
       rw [(b₆.1 (a₉ hx)).2,(b₆.1 (a₉ hp)).2]
       exact hrep
      ·rw [c₀,aR hall,List.length_replicate]
      ·unfold maxLen;omega
  ·exact h.elim
 ·exact h.elim
end
end
section
section
variable {Pg:Program} {T:bB} {w w':World} {P P':bT} {adr adr':fV} {m:FM} {cnt:Nat} {K:MV×Dl→Prop} {u v x y:Value} {r:MV}
theorem kR: ∀{l:List MV} {s:List UInt8} {parts:List (List Value)} {a:fV},kM l=some s→parts.length=l.length→(∀(j:Nat) m p,l[j]? =some m→parts[j]? =some p→cS w P a m p)→s.length=l.length∧parts=s.map fun b=> [Value.int .u8 (b.toNat:Int)]
 | [],s,parts,a,h,hp,_=>by
  simp [kM] at h;subst h
  exact⟨rfl,a₆ (by simpa using hp)⟩
 | m :: l,s,[],a,h,hp,_=>by simp at hp
 | m :: l,s,p :: parts,a,h,hp,hr=>by
  unfold kM at h
  split at h
  ·rename_i h0;cases h0
  ·rename_i n l' he
   injection he with e1 e2
   subst e1;subst e2
   split at h
   ·rename_i hn
    split at h
    ·rename_i r hr'
     injection h with h
     subst h
     obtain⟨h1,h2⟩:=kR hr' (by simpa using hp) fun j m p h1 h2=>hr (j + 1) m p h1 h2
     have h3:=hr 0 _ p rfl rfl
     refine⟨by simp [h1],?_⟩
     rw [h2,e₅]
     congr 1
     cases h3
     have:(UInt8.ofNat n.toNat).toNat=n.toNat:=by rw [UInt8.toNat_ofNat',h₄ om]
     rw [this]
     congr 2
     omega
    ·cases h
   ·cases h
  ·cases h
theorem flat_bytes (s:List UInt8):(s.map fun b=> [Value.int .u8 (b.toNat:Int)]).flatten=s.map fun b=>Value.int .u8 (b.toNat:Int):=by
 induction s with
 | nil=>rfl
 | cons b s ih=>simp [ih]
theorem Gf (hT:cB Pg T) (hI:aX w P adr m) (hn:adr cnt=none) {src dst:TypeId} {p:MV} (h:(lJ T m src dst p).runP K) (hp:aK w P adr p u) :
  ∃r y w',K (r, .none)∧(convert src dst u).run Pg w= .ok y w'∧bI w P adr m cnt r .none y w':=by
 unfold lJ at h
 split at h
 ·rename_i d0 k k' n hd0 hd
  obtain⟨r,hr,h⟩:=h
  injection hr with hr
  subst hr
  obtain⟨ds,hds⟩:=TD.fits_some (hT.fits hd0)
  rw [hp.int_]
  refine⟨_, .int k (k.wrap n),w,h,?_,bI.pure hI hn (.val [_] .int)⟩
  simp [convert,run_underlying hds,run_underlying (TD.fits_int (hT.fits hd)),Conv.intToInt]
 ·rename_i e es n l hd0 hd
  split at h
  ·rename_i hde
   obtain⟨s,hs,h⟩:=h
   have hu:=(TD.fits_slice (hT.fits hd0)).1
   have hu2:=TD.fits_str (hT.fits hd)
   have hu3:=TD.fits_int (hT.fits hde)
   obtain⟨A,cap,es',parts,rfl,h1,h2,h3,h4,h5,h6,h7⟩:=hp.sl_
   obtain⟨h8,h9⟩:=kR hs (h2.trans h1.symm) h7
   refine⟨_, .string ⟨s.toArray⟩,w,h,?_,bI.pure hI hn (.val [_] .str)⟩
   cases A with
   | none=>
    obtain⟨rfl,rfl⟩:=h4 rfl
    have:s= [] :=a₆ om
    subst this
    simp [convert,run_underlying hu,run_underlying hu2,run_underlying hu3,Conv.bytesToString]
    rfl
   | some a=>
    have hsn:s.length=n:=om
    subst hsn
    refine run_convert_bytes_back w src dst e a cap s hu hu3 hu2 fun j hj=>?_
    obtain⟨b,o,hA,hc⟩:=h6 om
    injection hA with hA
    subst hA
    rw [Addr.add_mid]
    refine(hc j _ ?_).1
    rw [h9,flat_bytes,b₁,a₃ hj];rfl
  ·exact h.elim
 ·rename_i e es hd0 hd
  split at h
  ·rename_i hde
   have hu:=(TD.fits_slice (hT.fits hd0)).1
   have hu2:=TD.fits_str (hT.fits hd)
   have hu3:=TD.fits_int (hT.fits hde)
   rw [hp.nils_]
   refine⟨_, .string ⟨#[]⟩,w,h,?_,bI.pure hI hn (.val [_] .str)⟩
   simp [convert,run_underlying hu,run_underlying hu2,run_underlying hu3,Conv.bytesToString]
   rfl
  ·exact h.elim
 ·rename_i e es c es' off n hd0 hd
  split at h
  ·rename_i b hde hb
   cases he:(a₂ es' 1 && a₂ b.es 1) with
   | false=>rw [he] at h;exact h.elim
   | true=>
    rw [he] at h
    rw [a₁] at he
    have he1:=a₀ he.1
    have he2:=a₀ he.2
    subst he1
    obtain⟨hle,s,hs,h⟩:=h
    have hu:=(TD.fits_slice (hT.fits hd0)).1
    have hu2:=TD.fits_str (hT.fits hd)
    have hu3:=TD.fits_int (hT.fits hde)
    refine⟨_, .string ⟨s.toArray⟩,w,h,?_,bI.pure hI hn (.val [_] .str)⟩
    have hlen:(cutL b.l off (off + n)).length=n:=by unfold cutL;rw [a₇,c₂];omega
    rcases hp.ms_ with ⟨rfl,rfl,rfl⟩ | ⟨g,o,cap,hg,rfl,ho,h5,h6,h7⟩
    ·have hc0:cutL b.l 0 (0 + 0)= [] :=a₆ (by rw [hlen])
     rw [hc0] at hs
     simp [kM] at hs
     subst hs
     simp [convert,run_underlying hu,run_underlying hu2,run_underlying hu3,Conv.bytesToString]
     rfl
    ·rcases hI.blk c b hb with h1 | ⟨g',h1,h2⟩
     ·rw [hg] at h1;cases h1.2.2.1
     ·rw [hg] at h1
      injection h1 with h1
      subst h1
      obtain⟨cur,parts,h3,h4,h8,h9,h10⟩:=h2.ofE om
      have hpl:((parts.drop off).take n).length=(cutL b.l off (off + n)).length:=by rw [hlen,a₇,c₂];omega
      obtain⟨h11,h12⟩:=kR (a:=if b.row then noAdr else adr) hs hpl fun j x p hx hp=>by
       obtain⟨hx,hj⟩:=ji hx
       rw [c₄] at hp
       split at hp
       ·rw [c₅] at hp;exact h9 _ x p hx hp
       ·cases hp
      have hsn:s.length=n:=om
      subst hsn
      refine run_convert_bytes_back w src dst e ⟨g,o,none⟩ cap s hu hu3 hu2 fun j hj=>?_
      have ho:=ho (.inl om)
      subst ho
      rw [Addr.add_mid,cell_of_row w g _ cur b.ty (0,0) h3]
      have hfl:parts.flatten[off * 1 + j]? =some (.int .u8 (s[j].toNat:Int)):=by
       refine dP (es:=1) (fun p hp=>by rw [h8 p hp,he2]) off s.length ?_ om
       rw [h12,flat_bytes,b₁,a₃ hj];rfl
      have:=dW h10 hfl
      simpa using this
  ·exact h.elim
 ·rename_i e es s hd0 hd
  split at h
  ·rename_i hde
   obtain⟨hle,l,hl,n,hnn,h⟩:=h
   injection hl with hl
   injection hnn with hnn
   subst hl;subst hnn
   have hu:=(TD.fits_slice (hT.fits hd)).1
   have hu2:=TD.fits_str (hT.fits hd0)
   have hu3:=TD.fits_int (hT.fits hde)
   rw [hp.str_]
   have hsz:(⟨s.toArray⟩:ByteArray).size=s.length:=by simp [ByteArray.size]
   have hrun:=run_bytes_of_string (P:=Pg) w src dst e ⟨s.toArray⟩ hu2 hu hu3
   rw [hsz] at hrun
   have hge:=grownCap_ge w s.length 0 e
   generalize grownCap w s.length 0 e=cap at *
   have hb:Below w.heap.size w (w.drew.alloc (.cells (bytesRow ⟨s.toArray⟩ cap) e ((bytesRow ⟨s.toArray⟩ cap).size,(bytesRow ⟨s.toArray⟩ cap).size + 1))):=by
    have:=Below.alloc1 w.drew (.cells (bytesRow ⟨s.toArray⟩ cap) e ((bytesRow ⟨s.toArray⟩ cap).size,(bytesRow ⟨s.toArray⟩ cap).size + 1))
    exact⟨this.os,this.tape,this.output,this.size,this.block⟩
   have hnew:(w.drew.alloc (.cells (bytesRow ⟨s.toArray⟩ cap) e ((bytesRow ⟨s.toArray⟩ cap).size,(bytesRow ⟨s.toArray⟩ cap).size + 1))).heap[w.heap.size]? =some (.cells (bytesRow ⟨s.toArray⟩ cap) e ((bytesRow ⟨s.toArray⟩ cap).size,(bytesRow ⟨s.toArray⟩ cap).size + 1)):=heap_alloc_new w.drew _
   generalize w.drew.alloc (.cells (bytesRow ⟨s.toArray⟩ cap) e ((bytesRow ⟨s.toArray⟩ cap).size,(bytesRow ⟨s.toArray⟩ cap).size + 1))=w1 at *
   refine⟨_,_,w1,h,hrun,iU w w1 P,adr,?_,hI.below hb,bG.below hI.prot hb,fun _ _=>rfl,fun g hg=>(by rw [hn] at hg;cases hg),(cG.of_below hb).weak fun _ e=>e.elim,fun b o hp=>?_⟩
   ·have hlt:w.heap.size < w1.heap.size:=(Array.getElem?_eq_some_iff.1 hnew).1
    refine .val [_] (.sl (some ⟨w.heap.size,0,none⟩) cap 1 (s.map fun b=> [Value.int .u8 (b.toNat:Int)]) (by simp [u8s]) sm (fun p hp=>?_) (fun h=>nomatch h) hge (fun _=>⟨w.heap.size,0,rfl,fun j x hx=>⟨?_, .inr ⟨e₉ _,hlt⟩⟩⟩) fun j x p hx hp=>?_)
    ·obtain⟨b,_,rfl⟩:=f₆.1 hp;rfl
    ·rw [cell_of_row w1 w.heap.size _ _ e _ hnew,h₁]
     rw [flat_bytes] at hx
     have hj:=(a₄.1 hx).1
     simp only [c₁] at hj
     rw [b₁,a₃ hj] at hx
     injection hx with hx
     unfold bytesRow
     rw [Array.getElem?_append_left (by simpa using hj)]
     simp [hj,hx]
    ·simp only [u8s,b₁,d₀] at hx hp
     obtain⟨b,hb,rfl⟩:=hx
     obtain⟨b',hb',rfl⟩:=hp
     rw [hb] at hb'
     injection hb' with hb'
     subst hb'
     exact .int
   ·rcases hp with hp | hp
    ·exact .inl hp
    ·exact .inr (.inl hp.1)
  ·exact h.elim
 ·exact h.elim
end
end
section
section
variable {Pg:Program} {T:bB} {w w':World} {P P':bT} {adr adr':fV} {m:FM} {cnt:Nat} {K:MV×Dl→Prop} {u v x y:Value} {r:MV}
theorem Jy {op:BinOp} {k:IntKind} {a b:Int} (h:((F9 op k a b).bind pureA).runP K):w5 op k a b fun v=> ∃r,K (r, .none)∧aK w P adr r v:=by
 cases op <;> simp only [F9,val,bj.bind,bj.ask,bj.prf,bj.ret,pureA,bj.runP] at h <;> simp only [w5]
 case quo=>obtain ⟨h0,r,hr,h⟩:=h;injection hr with hr;exact⟨h0,r,hr,_,h, .val [_] .int⟩
 case rem=>obtain ⟨h0,r,hr,h⟩:=h;injection hr with hr;exact⟨h0,r,hr,_,h, .val [_] .int⟩
 case shl=>obtain ⟨h0,r,hr,h⟩:=h;injection hr with hr;exact⟨h0,r,hr,_,h, .val [_] .int⟩
 case shr=>obtain ⟨h0,r,hr,h⟩:=h;injection hr with hr;exact⟨h0,r,hr,_,h, .val [_] .int⟩
 all_goals first
  | (obtain⟨r,hr,h⟩:=h;injection hr with hr;exact⟨r,hr,_,h, .val [_] .int⟩)
  | exact⟨_,h, .val [_] .bool⟩
theorem ba_list (s:List UInt8):(⟨s.toArray⟩:ByteArray).toList=s:=by rw [ByteArray.toList_eq]
theorem ba_size (s:List UInt8):(⟨s.toArray⟩:ByteArray).size=s.length:=by simp [ByteArray.size]
theorem LX (s t:List UInt8):(⟨s.toArray⟩ ++ ⟨t.toArray⟩:ByteArray)=⟨(s ++ t).toArray⟩:=by
 apply ByteArray.ext;simp [ByteArray.data_append]
theorem Jz {op:BinOp} {a b:List UInt8} (h:((Jv op a b).bind pureA).runP K):w6 op ⟨a.toArray⟩ ⟨b.toArray⟩ fun v=> ∃r,K (r, .none)∧aK w P adr r v:=by
 cases op <;> simp only [Jv,val,bj.bind,bj.ask,bj.prf,bj.ret,bj.bad,pureA,bj.runP] at h <;> simp only [w6,ba_list,ba_size,LX]
 case add=>obtain ⟨h0,r,hr,h⟩:=h;injection hr with hr;subst hr;exact⟨h0,_,h, .val [_] .str⟩
 all_goals first
  | exact⟨_,h, .val [_] .bool⟩
  | exact h.elim
theorem JA {op:BinOp} {a b:Bool} (h:((Ga op a b).bind pureA).runP K):ss op a b fun v=> ∃r,K (r, .none)∧aK w P adr r v:=by
 cases op <;> simp only [Ga,bj.bind,bj.ret,bj.bad,pureA,bj.runP] at h <;> simp only [ss]
 all_goals first
  | exact⟨_,h, .val [_] .bool⟩
  | exact h.elim
mutual
theorem mU: ∀{f t:Nat} {m:MV} {cs:List Value} {adr:fV},gf T f t m=true→cS w P adr m cs→jG T f t cs
 | 0,_,_,_,_,h,_=>by simp [gf] at h
 | f + 1,t,m,cs,adr,h,hr=>by
  unfold gf at h
  unfold jG
  split at h
  ·rename_i k j n hd
   rw [hd]
   have:=Ct h
   subst this
   cases hr
   exact⟨n,rfl⟩
  ·rename_i hd;rw [hd];cases hr;exact⟨_,rfl⟩
  ·rename_i hd;rw [hd];cases hr;exact⟨_,rfl⟩
  ·rename_i n e es n' es' l hd
   rw [hd]
   simp only [a₁] at h
   obtain⟨⟨h1,h2⟩,h3⟩:=h
   have h1:=a₀ h1
   have h2:=a₀ h2
   subst h1;subst h2
   cases hr with
   | arr parts hl hp hes hr=>
    refine⟨by rw [aR hes,hp],fun i hi=>?_⟩
    have hx:=a₃ (l:=l) (i:=i) om
    obtain⟨q,hq⟩:=cZ (hp.trans hl.symm) hx
    have hql:=hes q (a₉ hq)
    have hpre:(parts.take i).flatten.length=i * es:=by
     rw [aR (es:=es) fun x hx=>hes x (b₄ hx),a₇,b₉ om]
    have:(parts.flatten.drop (i * es)).take es=q:=by
     rw [bU hq,b₅,← hpre,e₈,← hql,e₂]
    rw [this]
    exact mU (b₇.1 h3 _ (h₅ om)) (hr i _ q hx hq)
  ·rename_i fs sz l hd
   rw [hd]
   cases hr with
   | st parts hp hr=>
    have:=s9 h hp hr [] rfl
    rw [List.nil_append] at this
    exact this
  ·cases h
theorem s9: ∀{f:Nat} {fs:List (Nat×TypeId)} {o:Nat} {l:List MV} {sz:Nat} {parts:List (List Value)} {adr:fV},confMs T f fs o l sz=true→parts.length=l.length→(∀(j:Nat) m p,l[j]? =some m→parts[j]? =some p→cS w P adr m p)→
  ∀(pre:List Value),pre.length=o→(pre ++ parts.flatten).length=sz∧fs.foldr (fun x K=>(match bB.find T x.2 with | some d=>jG T f x.2 (((pre ++ parts.flatten).drop x.1).take d.size) | none=>False)∧K) True
 | f,[],o,[],sz,parts,adr,h,hp,hr,pre,hpre=>by
  have h:=a₀ (show a₂ o sz=true from by simpa [confMs] using h)
  have:parts= [] :=a₆ (by simpa using hp)
  subst this
  exact⟨by simp [hpre,h],trivial⟩
 | f,(o',t) :: fs,o,m :: l,sz,[],adr,h,hp,hr,pre,hpre=>by simp at hp
 | f,(o',t) :: fs,o,m :: l,sz,p :: parts,adr,h,hp,hr,pre,hpre=>by
  rw [confMs,a₁] at h
  obtain⟨h1,h2⟩:=h
  have h1:=a₀ h1
  subst h1
  split at h2
  ·rename_i d hd
   simp only [a₁] at h2
   obtain⟨⟨h3,h4⟩,h5⟩:=h2
   have h3:=a₀ h3
   have hrep:=hr 0 m p rfl rfl
   have hpl:p.length=d.size:=by rw [hrep.size,h3]
   have ih:=s9 h5 (parts:=parts) (by simpa using hp) (fun j m p h1 h2=>hr (j + 1) m p h1 h2) (pre ++ p) (by rw [a₅,hpre,hpl])
   have e:pre ++ (p :: parts).flatten=pre ++ p ++ parts.flatten:=sm
   rw [e]
   refine⟨ih.1,?_,ih.2⟩
   simp only [hd]
   have:((pre ++ p ++ parts.flatten).drop o).take d.size=p:=by
    rw [b₅,← hpre,e₈,← hpl,e₂]
   rw [this]
   exact mU h4 hrep
  ·cases h2
 | f,[],o,_ :: _,_,_,_,h,_,_,_,_=>by simp [confMs] at h
 | f,_ :: _,o,[],_,_,_,h,_,_,_,_=>by simp [confMs] at h
end
mutual
theorem CA: ∀{a b:MV} {t:Bool} {xs ys:List Value} {adr adr':fV},DZ a b=some t→cS w P adr a xs→cS w P adr' b ys→xs.length=ys.length∧(t=true↔xs=ys)
 | a,b,t,xs,ys,adr,adr',h,hx,hy=>by
  unfold DZ at h
  split at h
  ·rename_i k m j n
   split at h
   ·rename_i hk
    injection h with h
    subst h
    have hk:=ot hk
    subst hk
    cases hx;cases hy
    simp
   ·cases h
  ·injection h with h
   subst h
   cases hx;cases hy
   simp
  ·injection h with h
   subst h
   cases hx;cases hy
   rename_i s u
   simp
  ·cases hx with
   | st parts hp hr=>cases hy with
    | st parts' hp' hr'=>exact ta h hp hp' hr hr'
  ·rename_i n es l n' es' l'
   cases hb:(a₂ n n' && a₂ es es') with
   | false=>rw [hb] at h;cases h
   | true=>
    rw [hb] at h
    cases hx with
    | arr parts hl hp hes hr=>cases hy with
     | arr parts' hl' hp' hes' hr'=>exact ta h (hp.trans hl.symm) (hp'.trans hl'.symm) hr hr'
  ·cases h
theorem ta: ∀{l l':List MV} {t:Bool} {parts parts':List (List Value)} {adr adr':fV},r8 l l'=some t→parts.length=l.length→parts'.length=l'.length→(∀(j:Nat) m p,l[j]? =some m→parts[j]? =some p→cS w P adr m p)→(∀(j:Nat) m p,l'[j]? =some m→parts'[j]? =some p→cS w P adr' m p)→
  parts.flatten.length=parts'.flatten.length∧(t=true↔parts.flatten=parts'.flatten)
 | [],[],t,parts,parts',adr,adr',h,hp,hp',_,_=>by
  have h1:parts= [] :=a₆ (by simpa using hp)
  have h2:parts'= [] :=a₆ (by simpa using hp')
  subst h1;subst h2
  simp [r8] at h
  subst h
  simp
 | a :: l,b :: l',t,p :: parts,q :: parts',adr,adr',h,hp,hp',hr,hr'=>by
  rw [r8] at h
  split at h
  ·rename_i x y hx hy
   injection h with h
   subst h
   obtain⟨h1,h2⟩:=CA hx (hr 0 a p rfl rfl) (hr' 0 b q rfl rfl)
   obtain⟨h3,h4⟩:=ta hy (parts:=parts) (parts':=parts') (by simpa using hp) (by simpa using hp') (fun j m p h1 h2=>hr (j + 1) m p h1 h2) (fun j m p h1 h2=>hr' (j + 1) m p h1 h2)
   refine⟨by simp only [b₀,a₅];omega,?_⟩
   rw [a₁,h2,h4,b₀,b₀]
   exact⟨fun ⟨e1,e2⟩=>by rw [e1,e2],fun e=>h₆ e h1⟩
  ·cases h
 | [],_ :: _,t,_,_,_,_,h,_,_,_,_=>by simp [r8] at h
 | _ :: _,[],t,_,_,_,_,h,_,_,_,_=>by simp [r8] at h
 | _ :: _,_ :: _,t,[],_,_,_,h,hp,_,_,_=>by simp at hp
 | _ :: _,_ :: _,t,_ :: _,[],_,_,h,_,hp,_,_=>by simp at hp
end
end
end
section
section
variable {Pg:Program} {T:bB} {w w':World} {P P':bT} {adr adr':fV} {m:FM} {cnt:Nat} {K:MV×Dl→Prop} {u v x y:Value} {r:MV}
theorem xe {k:Nat} {p:MV} {b:Bool} (h:sV k p=some b) (hp:aK w P adr p u) :
  (k=0∧((u= .pointer none∧b=true)∨∃a,u= .pointer (some a)∧b=false))∨(k=1∧((u= .slice none 0 0∧b=true)∨∃a n c,u= .slice (some a) n c∧b=false))∨(k=2∧((u= .nilIface∧b=true)∨∃t z,u= .iface t z∧b=false)):=by
 unfold sV at h
 split at h <;> first | (cases h;done) | (injection h with h;subst h)
 ·exact .inl ⟨rfl, .inl ⟨hp.nilp_,rfl⟩⟩
 ·obtain⟨g,_,e⟩:=hp.ptr_;exact .inl ⟨rfl, .inr ⟨_,e,rfl⟩⟩
 ·exact .inl ⟨rfl, .inr ⟨_,hp.gp_,rfl⟩⟩
 ·obtain⟨b,o,vs,e,_⟩:=hp.ep_;exact .inl ⟨rfl, .inr ⟨_,e,rfl⟩⟩
 ·exact .inr (.inl ⟨rfl, .inl ⟨hp.nils_,rfl⟩⟩)
 ·obtain⟨A,cap,es,parts,e,_,_,_,h4,_⟩:=hp.sl_
  cases A with
  | none=>exact absurd (h4 rfl).1 om
  | some a=>exact .inr (.inl ⟨rfl, .inr ⟨_,_,_,e,rfl⟩⟩)
 ·exact .inr (.inr ⟨rfl, .inl ⟨hp.nili_,rfl⟩⟩)
 ·cases hp with | val cs h=>cases h with | ifc cs h=>exact .inr (.inr ⟨rfl, .inr ⟨_,_,rfl,rfl⟩⟩)
theorem LY (hT:cB Pg T) {op:BinOp} {t:TypeId} {xo yo:Operand} {p q:MV} (h:(LP Pg T op t p q).runP K) (hp:aK w P adr p u) (hq:aK w P adr q v) :
  ∃r y,K (r, .none)∧(do eqGuard op t xo yo u v;binOp op t u v:Sem Value).run Pg w= .ok y w∧aK w P adr r y:=by
 unfold LP at h
 split at h
 ·rename_i d hd
  cases hb:(d.agg && fits d p && fits d q) with
  | false=>rw [hb] at h;exact h.elim
  | true=>
   rw [hb] at h
   simp only [a₁] at hb
   obtain⟨⟨ha,hfp⟩,hfq⟩:=hb
   obtain⟨⟨he,hc1,hc2⟩,b,hbe,h⟩:=h
   unfold NB at he
   simp only [a₁,h₂] at he
   obtain⟨cs,hcs,rfl⟩:=hp.agg_ (by rw [(iq hfp).2.1,ha])
   obtain⟨cs',hcs',rfl⟩:=hq.agg_ (by rw [(iq hfq).2.1,ha])
   obtain⟨b',r1,r2,r3⟩:=yD (P:=Pg) (T:=T) hT hd ha he.1 he.2 xo yo (mU hc1 hcs) (mU hc2 hcs')
   have hbb:b'=b:=by
    have:=(CA hbe hcs hcs').2
    rw [Bool.eq_iff_iff,r3,this]
   subst hbb
   cases op <;> first | exact h.elim | skip
   ·exact⟨_,_,h,r1 w, .val [_] .bool⟩
   ·exact⟨_,_,h,r2 w, .val [_] .bool⟩
 ·exact h.elim
theorem JB (hT:cB Pg T) {op:BinOp} {t:TypeId} {xo yo:Operand} {p q:MV} (h:(D0 Pg T op t yo p q).runP K) (hp:aK w P adr p u) (hq:aK w P adr q v) :
  ∃r y,K (r, .none)∧(do eqGuard op t xo yo u v;binOp op t u v:Sem Value).run Pg w= .ok y w∧aK w P adr r y:=by
 have fin: ∀{b:Bool} {a1 a2:SV},a1.den=u→a2.den=v→jN T t yo a1 a2=some b→(match op with | .eql=>(pureA (.bool b)).runP K | .neq=>(pureA (.bool (!b))).runP K | _=>False)→∃r y,K (r, .none)∧(do eqGuard op t xo yo u v;binOp op t u v:Sem Value).run Pg w= .ok y w∧aK w P adr r y:=by
  intro b a1 a2 e1 e2 hc hk
  subst e1;subst e2
  obtain⟨h1,h2⟩:=sN (xo:=xo) hT hc w
  cases op <;> first | exact hk.elim | skip
  ·exact⟨_,_,hk,h1, .val [_] .bool⟩
  ·exact⟨_,_,hk,h2, .val [_] .bool⟩
 have finN: ∀{k:Nat} {a2:SV},a2.den=v→(vi (sV k p) op).runP K→(∀b,sV k p=some b→jN T t yo (.val u) a2=some b)→∃r y,K (r, .none)∧(do eqGuard op t xo yo u v;binOp op t u v:Sem Value).run Pg w= .ok y w∧aK w P adr r y:=by
  intro k a2 e2 h hb
  cases hm:sV k p with
  | none=>rw [hm] at h;exact h.elim
  | some b=>
   rw [hm] at h
   refine fin (a1:= .val u) (b:=b) rfl e2 (hb b hm) ?_
   cases op <;> exact h
 cases q with
 | int k' b=>
  cases p with
  | int k a=>
   replace h:bj.runP (bif oJ op || a₂ (DX k) (DX k') then(F9 op k a b).bind pureA else .bad) K:=h
   cases hk:(oJ op || a₂ (DX k) (DX k')) with
   | false=>rw [hk] at h;exact h.elim
   | true=>
    rw [hk] at h
    rw [hp.int_,hq.int_]
    obtain⟨y,hy,r,hr,hrep⟩:=AY (P:=Pg) (t:=t) (xo:=xo) (yo:=yo) (k':=k') hk (Jy (w:=w) (P:=P) (adr:=adr) h)
    exact⟨r,y,hr,hy w,hrep⟩
  | _=>exact h.elim
 | str b=>
  cases p with
  | str a=>
   rw [hp.str_,hq.str_]
   obtain⟨y,hy,r,hr,hrep⟩:=AZ (P:=Pg) (t:=t) (xo:=xo) (yo:=yo) (Jz (w:=w) (P:=P) (adr:=adr) h)
   exact⟨r,y,hr,hy w,hrep⟩
  | _=>exact h.elim
 | bool b=>
  cases p with
  | bool a=>
   replace h:bj.runP (match bB.find T t with | some .bool=>(Ga op a b).bind pureA | _=> .bad) K:=h
   split at h
   ·rename_i hd
    have hu:Pg.underlying t=some .bool:=TD.fits_bool (hT.fits hd)
    rw [hp.bool_,hq.bool_]
    obtain⟨y,hy,r,hr,hrep⟩:=yy (P:=Pg) (t:=t) (xo:=xo) (yo:=yo) hu (JA (w:=w) (P:=P) (adr:=adr) h)
    exact⟨r,y,hr,hy w,hrep⟩
   ·exact h.elim
  | _=>exact h.elim
 | nilp=>
  replace h:bj.runP (match bB.find T t with | some .ptr=>vi (sV 0 p) op | _=> .bad) K:=h
  split at h
  ·rename_i hd
   refine finN (k:=0) (a2:= .val (.pointer none)) hq.nilp_.symm h fun b hb=>?_
   rcases xe hb hp with ⟨_,hc⟩ | ⟨hk,_⟩ | ⟨hk,_⟩
   ·rcases hc with ⟨rfl,rfl⟩ | ⟨a,rfl,rfl⟩ <;> simp [jN,hd]
   ·cases hk
   ·cases hk
  ·exact h.elim
 | nils=>
  replace h:bj.runP (match bB.find T t with | some (.slice ..)=>vi (sV 1 p) op | _=> .bad) K:=h
  split at h
  ·rename_i e es hd
   refine finN (k:=1) (a2:= .val (.slice none 0 0)) hq.nils_.symm h fun b hb=>?_
   rcases xe hb hp with ⟨hk,_⟩ | ⟨_,hc⟩ | ⟨hk,_⟩
   ·cases hk
   ·rcases hc with ⟨rfl,rfl⟩ | ⟨a,n,c,rfl,rfl⟩ <;> simp [jN,hd]
   ·cases hk
  ·exact h.elim
 | nili=>
  replace h:bj.runP (match bB.find T t,yo with | some .iface, .const _=>vi (sV 2 p) op | _,_=> .bad) K:=h
  split at h
  ·have hd:bB.find T t=some .iface:=by assumption
   refine finN (k:=2) (a2:= .val .nilIface) hq.nili_.symm h fun b hb=>?_
   rcases xe hb hp with ⟨hk,_⟩ | ⟨hk,_⟩ | ⟨_,hc⟩
   ·cases hk
   ·cases hk
   ·rcases hc with ⟨rfl,rfl⟩ | ⟨t',z,rfl,rfl⟩ <;> simp [jN,hd]
  ·exact h.elim
 | _=>exact LY hT h hp hq
theorem Gg (hI:aX w P adr m) {es:Nat} {q:MV} {k:Nat→List MV→bj (MV×Dl)} (h:(oK m es q k).runP K) (hq:aK w P adr q v) :
  ∃(n:Nat) (l:List MV) (A:Option Addr) (cap:Nat) (parts:List (List Value)),(k n l).runP K∧v= .slice A n cap∧l.length=n∧parts.length=n∧(∀p∈parts,p.length=es)∧(A=none→n=0)∧
   (∀a,A=some a→∀(j:Nat) x,parts.flatten[j]? =some x→w.cell? (a.add j)=some x)∧(∀(j:Nat) m p,l[j]? =some m→parts[j]? =some p→cS w P noAdr m p):=by
 unfold oK at h
 split at h
 ·rename_i n l
  obtain⟨hh,h⟩:=h
  obtain⟨A,cap,es',parts,rfl,h1,h2,h3,h4,h5,h6,h7⟩:=hq.sl_
  refine⟨n,l,A,cap,parts,h,rfl,h1,h2,fun p hp=>?_,fun e=>(h4 e).1,fun a ha j x hx=>?_,h7⟩
  ·have hn:n≠0:=by rw [← h2];exact fun e=>by rw [a₆ e] at hp;cases hp
   cases l with
   | nil=>simp at h1;omega
   | cons z l=>
    have hz:=a₀ (show a₂ z.size es=true from hh)
    obtain⟨q,hq⟩:=cZ (l:=z :: l) (parts:=parts) (by rw [h2,h1]) (i:=0) rfl
    rw [h3 p hp,← hz,← (h7 0 z q rfl hq).size,h3 q (a₉ hq)]
  ·by_cases hn:n=0
   ·have:parts= [] :=a₆ om
    subst this
    simp at hx
   ·obtain⟨b,o,hA,hc⟩:=h6 hn
    rw [ha] at hA
    injection hA with hA
    subst hA
    rw [Addr.add_mid]
    exact(hc j x hx).1
 ·rw [hq.nils_]
  exact⟨0,[],none,0,[],h,rfl,rfl,rfl,fun p hp=>(nomatch hp),fun _=>rfl,fun a ha=>(nomatch ha),fun j m p h=>(by simp at h)⟩
 ·rename_i c es' off n
  split at h
  ·rename_i b hb
   cases hc:(a₂ es es' && a₂ b.es es && b.row) with
   | false=>rw [hc] at h;exact h.elim
   | true=>
    rw [hc] at h
    simp only [a₁] at hc
    obtain⟨⟨e1,e2⟩,hrow⟩:=hc
    have e1:=a₀ e1
    have e2:=a₀ e2
    subst e1
    obtain⟨hle,l,hl,h⟩:=h
    injection hl with hl
    subst hl
    have hlen:(cutL b.l off (off + n)).length=n:=by unfold cutL;rw [a₇,c₂];omega
    rcases hq.ms_ with ⟨rfl,rfl,rfl⟩ | ⟨g,o,cap,hg,rfl,ho,h5,h6,h7⟩
    ·exact⟨0,_,none,0,[],h,rfl,hlen,rfl,fun p hp=>(nomatch hp),fun _=>rfl,fun a ha=>(nomatch ha),fun j m p _ h=>(by simp at h)⟩
    ·rcases hI.blk c b hb with h1 | ⟨g',h1,h2⟩
     ·rw [hg] at h1;cases h1.2.2.1
     ·rw [hg] at h1
      injection h1 with h1
      subst h1
      obtain⟨cur,parts,h3,h4,h8,h9,h10⟩:=h2.ofR hrow
      rw [hrow] at h9
      refine⟨n,_,some ⟨g,o,none⟩,cap,(parts.drop off).take n,h,rfl,hlen,by rw [a₇,c₂];omega,fun p hp=>by rw [h8 p (g₂ (b₄ hp)),e2],fun e=>(nomatch e),fun a ha j x hx=>?_,fun j z p hz hp=>?_⟩
      ·injection ha with ha
       subst ha
       have hn0:n≠0:=by
        rintro rfl
        simp at hx
       have ho:=ho (.inl hn0)
       subst ho
       rw [Addr.add_mid,cell_of_row w g _ cur b.ty (0,0) h3]
       have:=dW h10 (dP (es:=es) (fun p hp=>by rw [h8 p hp,e2]) off n hx om)
       simpa using this
      ·obtain⟨hz,hj⟩:=ji hz
       rw [c₄] at hp
       split at hp
       ·rw [c₅] at hp;exact h9 _ z p hz hp
       ·cases hp
  ·exact h.elim
 ·exact h.elim
end
end
section
section
variable {Pg:Program} {T:bB} {w w':World} {P P':bT} {adr adr':fV} {m:FM} {cnt:Nat} {K:MV×Dl→Prop} {u v x y:Value} {r:MV}
theorem jY (t ty e:TypeId) (i:TypeInfo) (ht:Pg.underlying t=some (.slice e)) (hi:Pg.info? e=some i) (A:Option Addr) (n cap c:Nat) (h:n≤cap) :
  (Builtin.append_ #[t,t] ty #[.slice A n cap, .slice none 0 c]).run Pg w= .ok (.slice A n cap) w:=by
 cases A <;> simp [Builtin.append_,run_underlying ht,sizeOf,typeInfo,hi,Builtin.lenOf,h,run_firstCells_none,storeCells]
theorem qx (t ty e:TypeId) (i:TypeInfo) (ht:Pg.underlying t=some (.slice e)) (hi:Pg.info? e=some i) (a:Addr) (c:Nat) :
  (Builtin.append_ #[t,t] ty #[.slice none 0 0, .slice (some a) 0 c]).run Pg w= .ok (.slice none 0 0) w:=by
 simp [Builtin.append_,run_underlying ht,sizeOf,typeInfo,hi,Builtin.lenOf,Builtin.firstCells,loadCells,loadCellsFrom]
theorem tb (_hI:aX w P adr m) {m':FM} (hI':aX w P adr m') (hn:adr cnt=none) (hm:m' cnt=none) {δ:Dl} {b:MB} (hδ:δ.appF cnt m=aO m' cnt b) {e:TypeId} {es n cap:Nat} {news tail:List Value} (he:b.ty=e) (hes:b.es=es) (hrow:b.row=true) (hle:b.pe≤b.l.length)
  {parts:List (List Value)} (hpl:parts.length=b.l.length) (hpe: ∀p∈parts,p.length=es) (hr: ∀(j:Nat) x p,b.l[j]? =some x→parts[j]? =some p→cS w P noAdr x p) (hnews:parts.flatten=news) (_hbl:b.l.length=n) (hcap:n≤cap) (hcap2:cap≤maxLen) (hsz:(news ++ tail).length=cap * es) :
  bI w P adr m cnt (.ms cnt es 0 n) δ (.slice (some ⟨w.heap.size,0,none⟩) n cap) (w.drew.alloc (.cells (news ++ tail).toArray e)):=by
 have hb:Below w.heap.size w (w.drew.alloc (.cells (news ++ tail).toArray e)):=by
  have:=Below.alloc1 w.drew (.cells (news ++ tail).toArray e)
  exact⟨this.os,this.tape,this.output,this.size,this.block⟩
 have hnew:(w.drew.alloc (.cells (news ++ tail).toArray e)).heap[w.heap.size]? =some (.cells (news ++ tail).toArray e (0,0)):=heap_alloc_new w.drew _
 subst he
 obtain⟨h1,h2⟩:=hI'.new (b:=b) hn hm hb hnew hpl (by rw [hes];exact hpe) (by rw [hrow];exact hr) ⟨tail,by rw [hnews]⟩ hle
 refine⟨P,_,?_,by rw [hδ];exact h1,h2,fun c hc=>aJ _ _ hc,fun g hg=>?_,(cG.of_below hb).weak fun _ e=>e.elim,fun _ _ h=> .inl h⟩
 ·exact .val [_] (.ms w.heap.size 0 cap (aH _ _ _) (fun _=>by simp) hcap hcap2 ⟨_,_,hnew,fun _=>by rw [c₀,hsz]⟩)
 ·rw [aH] at hg
  injection hg with hg
  exact .inl (Nat.le_of_eq hg)
theorem zeros_list (z:Array Value) (n:Nat):(Builtin.zeroCells z n).toList.length=n * z.size:=by rw [Array.length_toList,size_zeroCells]
theorem Gh (w:World) (a b:List Value) (z:Array Value) (e:TypeId):w.drew.alloc (.cells (a.toArray ++ b.toArray ++ z) e)=w.drew.alloc (.cells (a ++ b ++ z.toList).toArray e):=by
 congr 2;apply Array.toList_inj.1;simp
theorem Eh (w:World) (b:List Value) (z:Array Value) (e:TypeId):w.drew.alloc (.cells (b.toArray ++ z) e)=w.drew.alloc (.cells (b ++ z.toList).toArray e):=by
 congr 2;apply Array.toList_inj.1;simp
theorem A6 (hT:cB Pg T) (hI:aX w P adr m) (hn:adr cnt=none) (hm:m cnt=none) {ats:Array TypeId} {ty:TypeId} {p q:MV} (h:(gk Pg T m cnt ats.toList p q).runP K) (hp:aK w P adr p u) (hq:aK w P adr q v) :
  ∃r δ y w',K (r,δ)∧(Builtin.append_ ats ty #[u,v]).run Pg w= .ok y w'∧bI w P adr m cnt r δ y w':=by
 unfold gk at h
 split at h
 ·rename_i t0 t1 hats
  obtain rfl:ats= #[t0,t1] :=by cases ats;simp at hats;subst hats;rfl
  cases htu:a₂ t0 t1 with
  | false=>rw [htu] at h;exact h.elim
  | true=>
   rw [htu] at h
   have htu:=a₀ htu
   subst htu
   simp only [cond_true] at h
   split at h
   ·rename_i e es hd
    obtain⟨hu,hs⟩:=TD.fits_slice (hT.fits (t:=t0) hd)
    split at h
    ·rename_i z hz
     cases hb:(a₂ z.size es && f₃ 0 es) with
     | false=>rw [hb] at h;exact h.elim
     | true=>
      rw [hb] at h
      simp only [a₁] at hb
      have hsz:=a₀ hb.1
      have hes:0 < es:=by simpa [g₁] using hb.2
      obtain⟨by_,hby,h⟩:=h
      obtain⟨n1,l,A,cap1,parts,h,rfl,hl1,hl2,hl3,hA,hcell,hrep⟩:=Gg hI h hq
      obtain⟨cs,c1,c2,_⟩:=fK 9 e _ hz
      have hz':=c1 []
      rw [c₉] at hz'
      obtain⟨zv,hzv,hzc⟩:=hT.zero hz' w
      have hzs:zv.cells.size=es:=by rw [← Array.length_toList,hzc,(c2 w P).size,hsz]
      have hone: ∀x∈parts.flatten,x.oneCell'=true:=by
       intro x hx
       obtain⟨p,hp,hx⟩:=f₅.1 hx
       obtain⟨j,hj,rfl⟩:=d₅.1 hp
       exact(hrep j _ _ (a₃ om) (a₃ hj)).one x hx
      cases hi:Pg.info? e with
      | none=>simp [hi] at hby
      | some it=>
       have hby':it.bytes=by_:=by simpa [hi] using hby
       have hszi:it.size=es:=by simpa [fU,hi] using hs
       have hit:it.zero=some zv:=by
        cases hv:it.zero with
        | none=>simp [zeroValue,typeInfo,hi,hv,unsupported] at hzv
        | some v=>simp [zeroValue,typeInfo,hi,hv] at hzv;rw [hzv]
       have hfl:parts.flatten.length=n1 * it.size:=by rw [aR hl3,hl2,hszi]
       -- a nil slice,appended to
       have nilcase: ∀{m':FM} {b:MB} {δ:Dl},aX w P adr m'→m' cnt=none→δ.appF cnt m=aO m' cnt b→b.ty=e→b.es=es→b.row=true→b.pe≤b.l.length→b.l=l→n1 * by_≤140737488355328→n1≤maxLen→K (.ms cnt es 0 n1,δ)→
         ∃r δ y w',K (r,δ)∧(Builtin.append_ #[t0,t0] ty #[.slice none 0 0, .slice A n1 cap1]).run Pg w= .ok y w'∧bI w P adr m cnt r δ y w':=by
        intro m' b δ hI' hm' hδ hbt hbe hbr hbp hbl hb1 hb2 hK
        by_cases h0:n1=0
        ·subst h0
         have hln:l= [] :=a₆ hl1
         refine⟨_,_, .slice none 0 0,w,hK,?_,P,adr, .val [_] .ms0,by rw [hδ];exact hI'.unborn hn hbr (by rw [hbl,hln]) (by rw [hbl,hln] at hbp;exact Nat.le_zero.1 hbp),bG.refl _ _ _,fun _ _=>rfl,fun g hg=>(by rw [hn] at hg;cases hg),cG.refl _ _,fun _ _ h=> .inl h⟩
         cases A with
         | none=>exact jY t0 ty e it hu hi none 0 0 cap1 (e₉ _)
         | some a=>exact qx t0 ty e it hu hi a cap1
        ·cases A with
         | none=>exact absurd (hA rfl) h0
         | some a=>
          have hr:=run_append_nil (P:=Pg) w t0 ty e it zv hu hi hit a n1 cap1 parts.flatten hfl (hcell a rfl) om (by unfold maxLen at hb2;omega) (by rw [hby'];omega)
          rw [Eh] at hr
          have hge:=grownCap_ge w n1 0 e
          have hle:=grownCap_le_maxLen w n1 0 e hb2
          refine⟨_,_,_,_,hK,hr,tb hI hI' hn hm' hδ hbt hbe hbr hbp (by rw [hbl,hl1,hl2]) hl3 (by rw [hbl];exact hrep) rfl (by rw [hbl,hl1]) hge hle ?_⟩
          rw [a₅,zeros_list,hzs,hfl,hszi,← d₇]
          congr 1
          omega
       split at h
       ·obtain⟨⟨hb1,hb2⟩,h⟩:=h
        rw [hp.nils_]
        exact nilcase hI hm rfl rfl rfl rfl (d₈ _) rfl hb1 hb2 h
       ·rename_i c es' off n _
        split at h
        ·rename_i b hbm
         cases hc:(a₂ off 0 && a₂ es es' && a₂ b.es es && b.row && a₂ b.ty e) with
         | false=>rw [hc] at h;exact h.elim
         | true=>
          rw [hc] at h
          have hh:=h
          clear h
          simp only [a₁] at hc
          obtain⟨⟨⟨⟨e1,e2⟩,e3⟩,hrow⟩,e4⟩:=hc
          have e1:=a₀ e1
          have e2:=a₀ e2
          have e3:=a₀ e3
          have e4:=a₀ e4
          subst e1;subst e2
          obtain⟨⟨hbl,hb1,hb2⟩,l',hl',k,hk,h⟩:=hh
          injection hl' with hl'
          injection hk with hk
          subst hl';subst hk
          have hcc:c≠cnt:=by rintro rfl;rw [hm] at hbm;cases hbm
          have hdelcnt:iT m c cnt=none:=by unfold iT;split;rfl;exact hm
          have hIdel:aX w P adr (iT m c):=hI.sub fun x y hx=>(mR hx).2
          rcases hp.ms_ with ⟨rfl,_,rfl⟩ | ⟨g,o,cap0,hg,rfl,ho,h5,h6,cur0,ty0,h7,h8⟩
          ·have hbnil:b.l= [] :=a₆ hbl
           have hpe0:b.pe≤(b.l ++ l).length:=by
            rcases hI.blk c b hbm with h1 | ⟨g',_,h2⟩
            ·rw [h1.2.2.2];exact d₈ _
            ·have:=h2.le;rw [a₅];omega
           rw [h₁] at hb1 hb2 h
           exact nilcase hIdel hdelcnt rfl rfl rfl rfl hpe0 (by rw [hbnil];rfl) hb1 hb2 h
          ·have ho:=ho (.inr rfl)
           rw [Nat.zero_mul] at ho
           subst ho
           rcases hI.blk c b hbm with h1 | ⟨g',h1,h2⟩
           ·rw [hg] at h1;cases h1.2.2.1
           ·rw [hg] at h1
            injection h1 with h1
            subst h1
            obtain⟨cur,parts0,h3,h4,h9,h10,h11⟩:=h2.ofR hrow
            rw [hrow] at h10
            rw [h3] at h7
            injection h7 with h7
            injection h7 with h7 _
            subst h7
            have hcs:=h8 rfl
            have hfl0:parts0.flatten.length=n * es:=by rw [aR h9,h4,hbl,e3]
            obtain⟨tl,htl⟩:=h11
            have hpeb:=h2.le
            have hall: ∀p∈parts0 ++ parts,p.length=es:=by
             intro p hp
             rcases List.mem_append.1 hp with hp | hp
             ·rw [h9 p hp,e3]
             ·exact hl3 p hp
            have hrall: ∀(j:Nat) x p,(b.l ++ l)[j]? =some x→(parts0 ++ parts)[j]? =some p→cS w P noAdr x p:=by
             intro j x p hx hp
             rw [g₀] at hx hp
             rw [h4] at hp
             split at hx
             ·rename_i hj
              rw [if_pos hj] at hp
              exact h10 j x p hx hp
             ·rename_i hj
              rw [if_neg hj] at hp
              exact hrep _ x p hx hp
            by_cases hroom:n + n1≤cap0
            ·have hrun:(Builtin.append_ #[t0,t0] ty #[.slice (some ⟨g,0,none⟩) n cap0, .slice A n1 cap1]).run Pg w= .ok (.slice (some ⟨g,0,none⟩) (n + n1) cap0) (w.setRow g (cur.toList.take (n * es) ++ parts.flatten ++ cur.toList.drop (n * es + parts.flatten.length)).toArray):=by
              cases A with
              | none=>
               have h0:=hA rfl
               subst h0
               have hpn:parts= [] :=a₆ hl2
               subst hpn
               have e7:(cur.toList.take (n * es) ++ ([] :List (List Value)).flatten ++ cur.toList.drop (n * es + ([] :List (List Value)).flatten.length)).toArray=cur:=by
                simp
               rw [e7,setRow_self w g cur b.ty (0,0) h3]
               exact jY t0 ty e it hu hi _ n cap0 cap1 h5
              | some a=>
               have:=run_append_room (P:=Pg) w t0 ty e it hu hi g n cap0 cur (by rw [h3,e4]) a n1 cap1 parts.flatten hfl (hcell a rfl) hone hroom (by rw [hfl,hcs,hszi,← d₇];exact c₈ _ hroom)
               rw [hszi] at this
               exact this
             have hcurl:cur.toList.take (n * es)=parts0.flatten:=by rw [← htl,← hfl0,e₂]
             rw [hcurl] at hrun
             have hdl:(cur.toList.drop (n * es + parts.flatten.length)).length=cur.size - (n * es + parts.flatten.length):=sm
             have hsz2:n * es + parts.flatten.length≤cur.size:=by rw [hfl,hcs,hszi,← d₇];exact c₈ _ hroom
             have hw:=hI.write (b':=⟨e,es,true,b.pe,b.l ++ l⟩) sm hbm hg e4.symm e3.symm rfl h3 (cur':=(parts0.flatten ++ parts.flatten ++ cur.toList.drop (n * es + parts.flatten.length)).toArray)
              (by simp only [c₀,a₅,hdl];omega)
              (fun o ho=>by
               have h12:=h2.pe o ho
               have h13:b.pe * b.es≤n * es:=by rw [e3];exact c₈ _ om
               have e5:cur[o]? =cur.toList[o]? :=sm
               rw [e5,← htl,b₂ om]
               have e6:(parts0.flatten ++ parts.flatten ++ cur.toList.drop (n * es + parts.flatten.length)).toArray[o]? =(parts0.flatten ++ (parts.flatten ++ cur.toList.drop (n * es + parts.flatten.length)))[o]? :=sm
               rw [htl,e6,b₂ om])
              (parts:=parts0 ++ parts) (by simp [h4,hl1,hl2]) hall hrall ⟨cur.toList.drop (n * es + parts.flatten.length),sm⟩
             have hr2:=hw.1.rename hg hn hm
             refine⟨_,_,_,_,h,hrun,P,aO adr cnt g,?_,hr2.1,hw.2.trans hr2.2,fun x hx=>aJ _ _ hx,fun g' hg'=>?_,?_,fun _ _ h=> .inl h⟩
             ·refine .val [_] (.ms g 0 cap0 (aH _ _ _) (fun _=>by simp) hroom h6 ⟨_,_,setRow_heap w g cur _ b.ty (0,0) h3,fun _=>?_⟩)
              simp only [c₀,a₅,hdl]
              omega
             ·rw [aH] at hg'
              injection hg' with hg'
              exact .inr ⟨c,by rw [hg,hg']⟩
             ·exact⟨rfl,rfl,rfl,sm,fun b' hb' hne=>setRow_other _ _ _ _ fun e=>hne ⟨c,by rw [e];exact hg⟩⟩
            ·cases A with
             | none=>exact absurd (hA rfl) om
             | some a=>
              have hr:=run_append_grow (P:=Pg) w t0 ty e it zv hu hi hit ⟨g,0,none⟩ n cap0 parts0.flatten (by rw [hfl0,hszi]) (fun j x hx=>by
               rw [Addr.add_mid,cell_of_row w g _ cur b.ty (0,0) h3,h₁]
               have:=dW ⟨tl,htl⟩ hx
               simpa using this) a n1 cap1 parts.flatten hfl (hcell a rfl) om (by unfold maxLen at hb2;omega) (growslice_fits om (by rw [hby'];exact hb1))
              rw [Gh] at hr
              have hge:=grownCap_ge w (n + n1) cap0 e
              have hle:=grownCap_le_maxLen w (n + n1) cap0 e hb2
              refine⟨_,_,_,_,h,hr,tb hI hIdel hn hdelcnt rfl rfl rfl rfl (by simp;omega) (parts:=parts0 ++ parts) (by simp [h4,hl1,hl2]) hall hrall sm (by simp [hbl,hl1]) hge hle ?_⟩
              rw [a₅,a₅,zeros_list,hzs,hfl0,hfl,hszi,← d₇,← d₇]
              congr 1
              omega
        ·exact h.elim
       ·exact h.elim
    ·exact h.elim
   ·exact h.elim
 ·exact h.elim
end
end
end Go.Proofs.YtohikcplmbkmeaaGreatDoor
