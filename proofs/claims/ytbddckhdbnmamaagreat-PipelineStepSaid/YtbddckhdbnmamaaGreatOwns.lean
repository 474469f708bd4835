/-
  Lists of own memory that grow (conditions: none).
-/
import Derived.Test.YtbddckhdbnmamaaGreatLoops
namespace Go.Proofs.YtbddckhdbnmamaaGreat
open Go Go.RowKit
set_option linter.unusedVariables false
set_option linter.unusedSimpArgs false
theorem zaf {H:Heap} {i:Nat} {x:Blk} (h:H[i]?=some x) (b:Blk):(H++[b])[i]?=some x:=by
 rw[gEa (gEs.1 h).1];exact h
theorem zL (H:Heap) (b:Blk):(H++[b])[H.length]?=some b:=by simp
def Grow (H:Heap) (sz:Nat) (o:Option Nat) (v:AV) (l:List AV):Prop:=
 match o with
 |none=>v= .isl (some true) 0 []∧l=[]
 |some id=>∃ver t,v= .osl id ver 0 l.length∧H[id]?=some (.arr ver sz false (l++t))
theorem zn7 {H:Heap} {sz id ver:Nat} {l:List AV} (h:H[id]?=some (.arr ver sz false l)):Grow H sz (some id) (.osl id ver 0 l.length) l:=⟨ver,[],rfl,by simpa using h⟩
def Kept (o:Option Nat) (H H':Heap):Prop:=H.length≤H'.length∧∀j,o≠some j→j<H.length→H'[j]?=H[j]?
theorem Kept.get {o:Option Nat} {H H':Heap} (h:Kept o H H') {j:Nat} {b:Blk} (ho:o≠some j) (hb:H[j]?=some b):H'[j]?=some b:=by
 rw[h.2 j ho ?_,hb]
 exact (gEs.1 hb).1
theorem Kept.refl (o:Option Nat) (H:Heap):Kept o H H:=⟨Nat.le_refl _,fun _ _ _=>rfl⟩
theorem Kept.append (o:Option Nat) (H K:Heap):Kept o H (H++K):=⟨by simp,fun j _ hj=>by rw[gEa hj]⟩
theorem Kept.set (id:Nat) (H:Heap) (b:Blk):Kept (some id) H (H.set id b):=⟨by simp,fun j hj _=>by
 have:id≠j:=fun e=>hj (by rw[e])
 rw[gEn this]⟩
theorem Kept.trans {o:Option Nat} {A B C:Heap} (h:Kept o A B) (h':Kept o B C):Kept o A C:=⟨Nat.le_trans h.1 h'.1,fun j ho hj=>by rw[h'.2 j ho (by have:=h.1;omega),h.2 j ho hj]⟩
theorem Kept.weak {o:Option Nat} {A B:Heap} (h:Kept none A B):Kept o A B:=⟨h.1,fun j _ hj=>h.2 j (by simp) hj⟩
theorem zrb (H:Heap) (sz:Nat):Grow H sz none (.isl (some true) 0 []) []:=⟨rfl,rfl⟩
theorem Grow.kept {H H':Heap} {sz:Nat} {o p:Option Nat} {v:AV} {l:List AV} (h:Grow H sz o v l) (hk:Kept p H H') (hd:∀id,p=some id→o≠some id):Grow H' sz o v l:=by
 cases o with
 |none=>exact h
 |some id=>
  obtain⟨ver,t,h1,h2⟩:=h
  exact⟨ver,t,h1,hk.get (fun e=>hd id e rfl) h2⟩
theorem Grow.okO {H:Heap} {sz:Nat} {o:Option Nat} {v:AV} {l:List AV} (h:Grow H sz o v l):okO v=some v:=by
 cases o with
 |none=>rw[h.1];rfl
 |some id=>obtain⟨ver,t,h1,h2⟩:=h;rw[h1];rfl
theorem Grow.cells {H:Heap} {sz:Nat} {o:Option Nat} {v:AV} {l:List AV} (h:Grow H sz o v l):v.cells=[v]:=by
 cases o with
 |none=>rw[h.1];rfl
 |some id=>obtain⟨ver,t,h1,h2⟩:=h;rw[h1];rfl
theorem Grow.cell {H:Heap} {sz:Nat} {o:Option Nat} {v:AV} {l:List AV} (h:Grow H sz o v l):v.cell=true:=by
 cases o with
 |none=>rw[h.1];rfl
 |some id=>obtain⟨ver,t,h1,h2⟩:=h;rw[h1];rfl
theorem Grow.len {H:Heap} {sz:Nat} {o:Option Nat} {v:AV} {l:List AV} (h:Grow H sz o v l):lenV false v= .int .i64 l.length:=by
 cases o with
 |none=>rw[h.1,h.2];rfl
 |some id=>obtain⟨ver,t,h1,h2⟩:=h;rw[h1];rfl
theorem Grow.app {H:Heap} {sz:Nat} {o:Option Nat} {v y:AV} {l xs:List AV} (h:Grow H sz o v l) (hy:zaH H sz y=some xs) (hc:xs.all (fun e=>e.cells.all AV.cell)=true) (hr:l.length+xs.length≤zaA):
  ∃o' v' H',ex H (.app sz) [v,y]=some (v',H')∧Grow H' sz o' v' (l++xs)∧Kept o H H'∧(o'=o∨o=none∧o'=some H.length∧H.length<H'.length)∧∀j,o'=some j→j<H'.length:=by
 have e0:ex H (.app sz) [v,y]=zb3 (truncH H v) sz v xs:=by simp only[ex,hy,hc,if_true]
 rw[e0]
 cases o with
 |none=>
  obtain⟨rfl,rfl⟩:=h
  cases xs with
  |nil=>exact⟨none,_,H,rfl,⟨rfl,rfl⟩,Kept.refl _ _,.inl rfl,by simp⟩
  |cons x r=>
   refine⟨some H.length,.osl H.length 0 0 (x::r).length,H++[.arr 0 sz false (x::r)],?_,zn7 (l:=[]++x::r) (by simp),Kept.append _ _ _,.inr ⟨rfl,rfl,by simp⟩,by simp⟩
   simp only[zb3,zlB]
   rw[if_pos (by simpa using hr)]
 |some id=>
  obtain⟨ver,t,rfl,h2⟩:=h
  have hid:id<H.length:=(gEs.1 h2).1
  obtain⟨H1,t1,t2,t3,t4⟩:∃H1,truncH H (.osl id ver 0 l.length)=H1∧H1[id]?=some (.arr ver sz false l)∧Kept (some id) H H1∧H1.length=H.length:=by
   simp only[truncH,h2]
   cases t with
   |nil=>exact⟨H,by simp,by simpa using h2,Kept.refl _ _,rfl⟩
   |cons a r=>
    refine⟨H.set id (.arr ver sz false l),?_,gEt hid,Kept.set _ _ _,by simp⟩
    rw[if_pos ⟨trivial,by simp⟩]
    simp
  rw[t1]
  cases xs with
  |nil=>exact⟨some id,.osl id ver 0 l.length,H1,by simp[zb3,t2],⟨ver,[],by simp,by simpa using t2⟩,t3,.inl rfl,by simp[t4,hid]⟩
  |cons x r=>
   refine⟨some id,.osl id (ver+(x::r).length) 0 (l.length+(x::r).length),H1.set id (.arr (ver+(x::r).length) sz false (l++x::r)),?_,⟨ver+(x::r).length,[],by simp,?_⟩,t3.trans (Kept.set _ _ _),.inl rfl,by simp[t4,hid]⟩
   .simp only[zb3,t2]
    rw[if_pos ⟨trivial,trivial,by simp⟩,if_pos hr]
    rfl
   .rw[List.append_nil];exact gEt (by omega)
theorem Grow.frz {H:Heap} {sz n:Nat} {o:Option Nat} {v:AV} {l:List AV} (h:Grow H sz o v l) (hf:l.all (fun e=>e.cells.all AV.still)=true):frz H (n+1) v=some (if o=none then .isl (some true) 0 [] else .isl (some false) sz l):=by
 cases o with
 |none=>rw[h.1];rfl
 |some id=>
  obtain⟨ver,t,h1,h2⟩:=h
  rw[h1]
  have e:((l++t).drop 0).take l.length=l:=by simp
  simp only[Go.Proofs.YtbddckhdbnmamaaGreat.frz,h2]
  rw[if_pos ⟨trivial,by simp⟩,e,if_pos hf]
  simp
@[simp] theorem elems_isl (H:Heap) (sz:Nat) (nl:Option Bool) (es:List AV):zaH H sz (.isl nl sz es)=some es:=by simp[zaH]
end Go.Proofs.YtbddckhdbnmamaaGreat
