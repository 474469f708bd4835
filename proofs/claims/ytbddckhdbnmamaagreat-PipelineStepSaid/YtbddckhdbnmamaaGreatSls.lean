/-
  Slices of plain values, as abstract values; what a reading of a slice says (conditions: none).
-/
import Derived.Test.YtbddckhdbnmamaaGreatOwns
import Derived.Test.YtbddckhdbnmamaaGreatLaws
namespace Go.Proofs.YtbddckhdbnmamaaGreat
open Go Go.RowKit
set_option linter.unusedVariables false
set_option linter.unusedSimpArgs false
structure Sl (α:Type) where
 nl:Option Bool
 z:Nat
 l:List α
 deriving DecidableEq
instance {α:Type}:Inhabited (Sl α):=⟨⟨some true,0,[]⟩⟩
def Sl.av {α:Type} (f:α→AV) (sz:Nat) (x:Sl α):AV:= .isl x.nl (if x.l.isEmpty then x.z else sz) (x.l.map f)
abbrev za5 {α:Type}:Sl α:=⟨some true,0,[]⟩
abbrev ofL {α:Type} (sz:Nat) (l:List α):Sl α:=⟨some false,sz,l⟩
abbrev I (n:Int):AV:= .int .i64 n
section sl
variable {α:Type} {f:α→AV} {sz:Nat} {x:Sl α} {H:Heap}
theorem zcs (l:List α):(.isl (some false) sz (l.map f):AV)=Sl.av f sz (ofL sz l):=by
 cases l<;>rfl
@[simp] theorem zwA:lenV false (Sl.av f sz x)= .int .i64 x.l.length:=by simp[Sl.av]
@[simp] theorem ztN (k:IntKind) (n:Int):zdI H sz (Sl.av f sz x) (.int k n)=if 0≤n then (match x.l[n.toNat]? with|some s=> .eptr (f s).cells|none=> .bad) else .bad:=by
 obtain⟨nl,z,l⟩:=x
 cases l with
 |nil=>simp[Sl.av]
 |cons a r=>
  simp only[Sl.av,zn0,List.isEmpty_cons,bFt,if_false,if_true,gEm]
  cases (a::r)[n.toNat]?<;>rfl
@[simp] theorem sl_okO:okO (Sl.av f sz x)=some (Sl.av f sz x):=rfl
@[simp] theorem sl_cells:(Sl.av f sz x).cells=[Sl.av f sz x]:=rfl
@[simp] theorem sl_imm:(Sl.av f sz x).imm=true:=rfl
@[simp] theorem sl_cell:(Sl.av f sz x).cell=true:=rfl
@[simp] theorem sl_ok:(Sl.av f sz x).ok=true:=rfl
@[simp] theorem sl_still:(Sl.av f sz x).still=true:=rfl
@[simp] theorem sl_flat:(Sl.av f sz x).flat=true:=rfl
@[simp] theorem sl_frz (n:Nat):frz H (n+1) (Sl.av f sz x)=some (Sl.av f sz x):=rfl
@[simp] theorem zko:zaH H sz (Sl.av f sz x)=some (x.l.map f):=by
 obtain⟨nl,z,l⟩:=x
 cases l<;>simp[Sl.av,zaH]
@[simp] theorem sl_eqn (n:Bool) (b:Bool) (z:Nat) (l:List α):eqnV false n (Sl.av f sz ⟨some b,z,l⟩)= .bool (if n then !b else b):=rfl
def Sl.part (sz:Nat) (x:Sl α) (lo hi:Nat):Sl α:=⟨x.nl,if x.l.isEmpty then x.z else sz,(x.l.take hi).drop lo⟩
def slcR (f:α→AV) (sz:Nat) (x:Sl α):Option (Nat×Nat)→AV|some p=> .isl x.nl (if x.l.isEmpty then x.z else sz) (((x.l.map f).take p.2).drop p.1)|none=> .bad
@[simp] theorem slcR_some (l h:Nat):slcR f sz x (some (l,h))= .isl x.nl (if x.l.isEmpty then x.z else sz) (((x.l.map f).take h).drop l):=rfl
@[simp] theorem slcR_none:slcR f sz x none= .bad:=rfl
@[simp] theorem sl_slc (lo hi:Bool) (bs:List AV):slcV H false sz lo hi (Sl.av f sz x) bs=slcR f sz x (zav x.l.length lo hi bs):=by
 obtain⟨nl,z,l⟩:=x
 cases l with
 |nil=>simp only[Sl.av,slcV,slcR,List.map_nil,List.length_nil,or_true,if_true];cases zav 0 lo hi bs<;>rfl
 |cons a r=>simp only[Sl.av,slcV,slcR,List.isEmpty_cons,bFt,if_false,true_or,if_true,List.length_map];cases zav (a::r).length lo hi bs<;>rfl
@[simp] theorem slcB_ff (n:Nat):zav n false false []=some (0,n):=rfl
@[simp] theorem slcB_tf (n:Nat) (k:IntKind) (a:Int):zav n true false [.int k a]=if 0≤a∧a≤n then some (a.toNat,n) else none:=rfl
@[simp] theorem slcB_ft (n:Nat) (k:IntKind) (a:Int):zav n false true [.int k a]=if 0≤a∧a≤n then some (0,a.toNat) else none:=rfl
@[simp] theorem slcB_tt (n:Nat) (k k':IntKind) (a b:Int):zav n true true [.int k a,.int k' b]=if 0≤a∧a≤b∧b≤n then some (a.toNat,b.toNat) else none:=rfl
end sl
theorem ziB (H:Heap) (n:Nat) {v:AV} (h:v.still=true):frz H (n+1) v=some v:=by
 cases v<;>first|rfl|cases h
theorem zco {k:IntKind} {a:AV} (h:ShOk (.int k) a):∃n,a= .int k n∧(Lit.int k n).wf=true:=by cases h with|int k n h=>exact⟨n,rfl,h⟩
theorem zjm {a:AV} (h:ShOk .bool a):∃b,a= .bool b:=by cases h with|bool b=>exact⟨b,rfl⟩
theorem ztk {α β:Type} {f:α→β} {p:α→Prop}:∀(l:List β),(∀x∈l,∃y,x=f y∧p y)→∃m:List α,l=m.map f∧∀y∈m,p y:=by
 intro l
 induction l with
 |nil=>intro _;exact⟨[],rfl,by simp⟩
 |cons x l ih=>
  intro h
  obtain⟨y,h1,h2⟩:=h x (by simp)
  obtain⟨m,h3,h4⟩:=ih (fun z hz=>h z (by simp[hz]))
  refine⟨y::m,by simp[h1,h3],?_⟩
  intro z hz
  rcases lMc.1 hz with rfl|hz
  .exact h2
  .exact h4 z hz
structure SlOk {α:Type} (p:α→Prop) (x:Sl α):Prop where
 nl:(x.nl=some true∧x.l=[])∨x.nl=some false
 len:x.l.length≤maxLen
 all:∀y∈x.l,p y
theorem zgN {α:Type} {f:α→AV} {p:α→Prop} {g:Bool} {l:List Sh} (hrow:∀e,zeo g l.length e→(∀(j:Nat) (c:AV) (s:Sh),(AV.cells e)[j]?=some c→l[j]?=some s→ShOk s c)→∃y,e=f y∧p y) {a:AV} (h:ShOk (.sl g l) a):∃x:Sl α,a=Sl.av f l.length x∧SlOk p x:=by
 cases h with
 |nil g l=>exact⟨⟨some true,l.length,[]⟩,rfl,.inl ⟨rfl,rfl⟩,by simp,by simp⟩
 |sl g l es hl hr hv=>
  obtain⟨m,h1,h2⟩:=ztk (f:=f) (p:=p) es (fun e he=>by
   obtain⟨i,hi⟩:=List.getElem?_of_mem he
   exact hrow e (hr i e hi) (fun j c s hc hs=>hv i e j c s hi hc hs))
  refine⟨⟨some false,l.length,m⟩,?_,.inr rfl,by rw[h1]at hl;simpa using hl,h2⟩
  rw[h1];cases m<;>rfl
theorem zgT {k:IntKind} (e:AV) (hr:zeo false 1 e) (hv:∀(j:Nat) (c:AV) (s:Sh),(AV.cells e)[j]?=some c→[Sh.int k][j]?=some s→ShOk s c):∃n,e= .int k n∧(Lit.int k n).wf=true:=by
 have hc:=hr.2 rfl
 exact zco (hv 0 e (.int k) (by rw[hc];rfl) rfl)
theorem ztX {s:Sh} {a:AV} (h:zpS (false,[s]) a):ShOk s a:=by
 obtain⟨s',h1,h2⟩:=h.2 rfl
 cases h1;exact h2
end Go.Proofs.YtbddckhdbnmamaaGreat
