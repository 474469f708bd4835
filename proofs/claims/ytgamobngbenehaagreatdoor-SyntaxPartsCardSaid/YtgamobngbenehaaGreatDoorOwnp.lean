/-
  Lists of own memory that grow (conditions: none).
-/
import Derived.Test.YtgamobngbenehaaGreatDoorLoopp
namespace Go.Proofs.YtgamobngbenehaaGreatDoor
open Go Go.RowKit
set_option linter.unusedVariables false
set_option linter.unusedSimpArgs false
theorem zw {H:Heap} {i:Nat} {x:Blk} (h:H[i]?=some x) (b:Blk):(H++[b])[i]?=some x:=by
 rw[gEa (gEs.1 h).1];exact h
theorem zg (H:Heap) (b:Blk):(H++[b])[H.length]?=some b:=by simp
def Grow (H:Heap) (sz:Nat) (o:Option Nat) (v:AV) (l:List AV):Prop:=
 match o with
 |none=>v= .isl (some true) 0 []∧l=[]
 |some id=>∃ver t,v= .osl id ver 0 l.length∧H[id]?=some (.arr ver sz false (l++t))
theorem zoE {H:Heap} {sz id ver:Nat} {l:List AV} (h:H[id]?=some (.arr ver sz false l)):Grow H sz (some id) (.osl id ver 0 l.length) l:=⟨ver,[],rfl,by simpa using h⟩
def Kept (o:Option Nat) (H H':Heap):Prop:=H.length≤H'.length∧∀j,o≠some j→j<H.length→H'[j]?=H[j]?
theorem Kept.get {o:Option Nat} {H H':Heap} (h:Kept o H H') {j:Nat} {b:Blk} (ho:o≠some j) (hb:H[j]?=some b):H'[j]?=some b:=by
 rw[h.2 j ho ?_,hb]
 exact (gEs.1 hb).1
theorem Kept.refl (o:Option Nat) (H:Heap):Kept o H H:=⟨Nat.le_refl _,fun _ _ _=>rfl⟩
theorem Kept.append (o:Option Nat) (H K:Heap):Kept o H (H++K):=⟨by simp,fun j _ hj=>by rw[gEa hj]⟩
theorem Kept.set (id:Nat) (H:Heap) (b:Blk):Kept (some id) H (H.set id b):=⟨by simp,fun j hj _=>by
 have:id≠j:=fun e=>hj (by rw[e])
 rw[gEn this]⟩
theorem Kept.trans {o:Option Nat} {A B C:Heap} (h:Kept o A B) (h':Kept o B C):Kept o A C:=⟨Nat.le_trans h.1 h'.1,fun j ho hj=>by rw[h'.2 j ho (by have:=h.1;omega),h.2 j ho hj]⟩
theorem Kept.weak {o:Option Nat} {A B:Heap} (h:Kept none A B):Kept o A B:=⟨h.1,fun j _ hj=>h.2 j (by simp) hj⟩
theorem Grow.kept {H H':Heap} {sz:Nat} {o p:Option Nat} {v:AV} {l:List AV} (h:Grow H sz o v l) (hk:Kept p H H') (hd:∀id,p=some id→o≠some id):Grow H' sz o v l:=by
 cases o with
 |none=>exact h
 |some id=>
  obtain⟨ver,t,h1,h2⟩:=h
  exact⟨ver,t,h1,hk.get (fun e=>hd id e rfl) h2⟩
theorem Grow.okO {H:Heap} {sz:Nat} {o:Option Nat} {v:AV} {l:List AV} (h:Grow H sz o v l):okO v=some v:=by
 cases o with
 |none=>rw[h.1];rfl
 |some id=>obtain⟨ver,t,h1,h2⟩:=h;rw[h1];rfl
theorem Grow.cells {H:Heap} {sz:Nat} {o:Option Nat} {v:AV} {l:List AV} (h:Grow H sz o v l):v.cells=[v]:=by
 cases o with
 |none=>rw[h.1];rfl
 |some id=>obtain⟨ver,t,h1,h2⟩:=h;rw[h1];rfl
theorem Grow.cell {H:Heap} {sz:Nat} {o:Option Nat} {v:AV} {l:List AV} (h:Grow H sz o v l):v.cell=true:=by
 cases o with
 |none=>rw[h.1];rfl
 |some id=>obtain⟨ver,t,h1,h2⟩:=h;rw[h1];rfl
theorem Grow.len {H:Heap} {sz:Nat} {o:Option Nat} {v:AV} {l:List AV} (h:Grow H sz o v l):lenV false v= .int .i64 l.length:=by
 cases o with
 |none=>rw[h.1,h.2];rfl
 |some id=>obtain⟨ver,t,h1,h2⟩:=h;rw[h1];rfl
theorem Grow.app {H:Heap} {sz:Nat} {o:Option Nat} {v y:AV} {l xs:List AV} (h:Grow H sz o v l) (hy:zaC H sz y=some xs) (hc:xs.all (fun e=>e.cells.all AV.cell)=true) (hr:l.length+xs.length≤zE):
  ∃o' v' H',ex H (.app sz) [v,y]=some (v',H')∧Grow H' sz o' v' (l++xs)∧Kept o H H'∧(o'=o∨o=none∧o'=some H.length∧H.length<H'.length)∧∀j,o'=some j→j<H'.length:=by
 have e0:ex H (.app sz) [v,y]=zby (truncH H v) sz v xs:=by simp only[ex,hy,hc,if_true]
 rw[e0]
 cases o with
 |none=>
  obtain⟨rfl,rfl⟩:=h
  cases xs with
  |nil=>exact⟨none,_,H,rfl,⟨rfl,rfl⟩,Kept.refl _ _,.inl rfl,by simp⟩
  |cons x r=>
   refine⟨some H.length,.osl H.length 0 0 (x::r).length,H++[.arr 0 sz false (x::r)],?_,zoE (l:=[]++x::r) (by simp),Kept.append _ _ _,.inr ⟨rfl,rfl,by simp⟩,by simp⟩
   simp only[zby,zir]
   rw[if_pos (by simpa using hr)]
 |some id=>
  obtain⟨ver,t,rfl,h2⟩:=h
  have hid:id<H.length:=(gEs.1 h2).1
  obtain⟨H1,t1,t2,t3,t4⟩:∃H1,truncH H (.osl id ver 0 l.length)=H1∧H1[id]?=some (.arr ver sz false l)∧Kept (some id) H H1∧H1.length=H.length:=by
   simp only[truncH,h2]
   cases t with
   |nil=>exact⟨H,by simp,by simpa using h2,Kept.refl _ _,rfl⟩
   |cons a r=>
    refine⟨H.set id (.arr ver sz false l),?_,gEt hid,Kept.set _ _ _,by simp⟩
    rw[if_pos ⟨trivial,by simp⟩]
    simp
  rw[t1]
  cases xs with
  |nil=>exact⟨some id,.osl id ver 0 l.length,H1,by simp[zby,t2],⟨ver,[],by simp,by simpa using t2⟩,t3,.inl rfl,by simp[t4,hid]⟩
  |cons x r=>
   refine⟨some id,.osl id (ver+(x::r).length) 0 (l.length+(x::r).length),H1.set id (.arr (ver+(x::r).length) sz false (l++x::r)),?_,⟨ver+(x::r).length,[],by simp,?_⟩,t3.trans (Kept.set _ _ _),.inl rfl,by simp[t4,hid]⟩
   .simp only[zby,t2]
    rw[if_pos ⟨trivial,trivial,by simp⟩,if_pos hr]
    rfl
   .rw[List.append_nil];exact gEt (by omega)
theorem Grow.frz {H:Heap} {sz n:Nat} {o:Option Nat} {v:AV} {l:List AV} (h:Grow H sz o v l) (hf:l.all (fun e=>e.cells.all AV.still)=true):frz H (n+1) v=some (if o=none then .isl (some true) 0 [] else .isl (some false) sz l):=by
 cases o with
 |none=>rw[h.1];rfl
 |some id=>
  obtain⟨ver,t,h1,h2⟩:=h
  rw[h1]
  have e:((l++t).drop 0).take l.length=l:=by simp
  simp only[Go.Proofs.YtgamobngbenehaaGreatDoor.frz,h2]
  rw[if_pos ⟨trivial,by simp⟩,e,if_pos hf]
  simp
def Fifo (H:Heap) (sz:Nat) (o:Option Nat) (v:AV) (l:List AV):Prop:=
 match o with
 |none=>v= .isl (some true) 0 []∧l=[]
 |some id=>∃ver pre t,v= .osl id ver pre.length l.length∧H[id]?=some (.arr ver sz false (pre++l++t))
theorem Grow.fifo {H:Heap} {sz:Nat} {o:Option Nat} {v:AV} {l:List AV} (h:Grow H sz o v l):Fifo H sz o v l:=by
 cases o with
 |none=>exact h
 |some id=>obtain⟨ver,t,h1,h2⟩:=h;exact⟨ver,[],t,h1,h2⟩
theorem Fifo.kept {H H':Heap} {sz:Nat} {o p:Option Nat} {v:AV} {l:List AV} (h:Fifo H sz o v l) (hk:Kept p H H') (hd:∀id,p=some id→o≠some id):Fifo H' sz o v l:=by
 cases o with
 |none=>exact h
 |some id=>
  obtain⟨ver,pre,t,h1,h2⟩:=h
  exact⟨ver,pre,t,h1,hk.get (fun e=>hd id e rfl) h2⟩
theorem Fifo.okO {H:Heap} {sz:Nat} {o:Option Nat} {v:AV} {l:List AV} (h:Fifo H sz o v l):okO v=some v:=by
 cases o with
 |none=>rw[h.1];rfl
 |some id=>obtain⟨ver,pre,t,h1,h2⟩:=h;rw[h1];rfl
theorem Fifo.cells {H:Heap} {sz:Nat} {o:Option Nat} {v:AV} {l:List AV} (h:Fifo H sz o v l):v.cells=[v]:=by
 cases o with
 |none=>rw[h.1];rfl
 |some id=>obtain⟨ver,pre,t,h1,h2⟩:=h;rw[h1];rfl
theorem Fifo.cell {H:Heap} {sz:Nat} {o:Option Nat} {v:AV} {l:List AV} (h:Fifo H sz o v l):v.cell=true:=by
 cases o with
 |none=>rw[h.1];rfl
 |some id=>obtain⟨ver,pre,t,h1,h2⟩:=h;rw[h1];rfl
theorem Fifo.len {H:Heap} {sz:Nat} {o:Option Nat} {v:AV} {l:List AV} (h:Fifo H sz o v l):lenV false v= .int .i64 l.length:=by
 cases o with
 |none=>rw[h.1,h.2];rfl
 |some id=>obtain⟨ver,pre,t,h1,h2⟩:=h;rw[h1];rfl
theorem Fifo.lt {H:Heap} {sz id:Nat} {v:AV} {l:List AV} (h:Fifo H sz (some id) v l):id<H.length:=by
 obtain⟨ver,pre,t,h1,h2⟩:=h;exact (gEs.1 h2).1
theorem Fifo.ne {H:Heap} {sz:Nat} {o:Option Nat} {v x:AV} {l:List AV} (h:Fifo H sz o v (x::l)):∃id,o=some id:=by
 cases o with
 |none=>cases h.2
 |some id=>exact⟨id,rfl⟩
theorem Fifo.head {H:Heap} {sz:Nat} {o:Option Nat} {v x:AV} {l:List AV} (h:Fifo H sz o v (x::l)):∃a,zb7 H sz v (.int .i64 0)=a∧Go.Proofs.YtgamobngbenehaaGreatDoor.okO a=some a∧∀g n,zbu H g n a=zk g n x.cells:=by
 obtain⟨id,rfl⟩:=h.ne
 obtain⟨ver,pre,t,rfl,h2⟩:=h
 refine⟨.optr id ver pre.length 0,?_,rfl,fun g n=>?_⟩
 .simp only[zb7,h2]
  rw[if_pos ⟨trivial,trivial,by omega,by simp⟩];rfl
 .simp only[zbu,h2,if_true]
  have:(pre++x::l++t)[pre.length]?=some x:=by
   rw[List.append_assoc,List.getElem?_append_right (Nat.le_refl _)];simp
  rw[this];rfl
theorem Fifo.tail {H:Heap} {sz:Nat} {o:Option Nat} {v x:AV} {l:List AV} (h:Fifo H sz o v (x::l)):∃v',slcV H false sz true false v [.int .i64 1]=v'∧Go.Proofs.YtgamobngbenehaaGreatDoor.okO v'=some v'∧v'.cells=[v']∧v'.cell=true∧Fifo H sz o v' l:=by
 obtain⟨id,rfl⟩:=h.ne
 obtain⟨ver,pre,t,rfl,h2⟩:=h
 refine⟨.osl id ver (pre.length+1) l.length,?_,rfl,rfl,rfl,ver,pre++[x],t,by simp,by rw[h2];simp⟩
 simp only[slcV,h2]
 rw[if_pos ⟨trivial,trivial⟩]
 simp only[zaw,List.length_cons]
 rw[if_pos ⟨by omega,by omega⟩]
 simp
theorem Fifo.app {H:Heap} {sz:Nat} {o:Option Nat} {v y:AV} {l xs:List AV} (h:Fifo H sz o v l) (hy:zaC H sz y=some xs) (hc:xs.all (fun e=>e.cells.all AV.cell)=true) (hr:l.length+xs.length≤zE):
  ∃o' v' H',ex H (.app sz) [v,y]=some (v',H')∧Fifo H' sz o' v' (l++xs)∧Kept o H H'∧(o'=o∨o=none∧o'=some H.length∧H.length<H'.length)∧∀j,o'=some j→j<H'.length:=by
 have e0:ex H (.app sz) [v,y]=zby (truncH H v) sz v xs:=by simp only[ex,hy,hc,if_true]
 cases o with
 |none=>
  obtain⟨o',v',H',a,b,c⟩:=Grow.app (o:=none) (v:=v) (l:=l) h hy hc hr
  exact⟨o',v',H',a,b.fifo,c⟩
 |some id=>
  rw[e0]
  obtain⟨ver,pre,t,rfl,h2⟩:=h
  have hid:id<H.length:=(gEs.1 h2).1
  obtain⟨H1,t1,t2,t3,t4⟩:∃H1,truncH H (.osl id ver pre.length l.length)=H1∧H1[id]?=some (.arr ver sz false (pre++l))∧Kept (some id) H H1∧H1.length=H.length:=by
   simp only[truncH,h2]
   cases t with
   |nil=>exact⟨H,by simp,by simpa using h2,Kept.refl _ _,rfl⟩
   |cons a r=>
    refine⟨H.set id (.arr ver sz false (pre++l)),?_,gEt hid,Kept.set _ _ _,by simp⟩
    rw[if_pos ⟨trivial,by simp⟩]
    have:(pre++l++a::r).take (pre.length+l.length)=pre++l:=by
     rw[List.take_append_of_le_length (by simp),List.take_of_length_le (by simp)]
    rw[this]
  rw[t1]
  cases xs with
  |nil=>exact⟨some id,.osl id ver pre.length l.length,H1,by simp[zby,t2],⟨ver,pre,[],by simp,by simpa using t2⟩,t3,.inl rfl,by simp[t4,hid]⟩
  |cons x r=>
   refine⟨some id,.osl id (ver+(x::r).length) 0 (l.length+(x::r).length),H1.set id (.arr (ver+(x::r).length) sz false (l++x::r)),?_,⟨ver+(x::r).length,[],[],by simp,?_⟩,t3.trans (Kept.set _ _ _),.inl rfl,by simp[t4,hid]⟩
   .simp only[zby,t2]
    rw[if_pos ⟨trivial,trivial,by simp⟩,if_pos hr]
    simp
   .rw[List.append_nil,List.nil_append];exact gEt (by omega)
@[simp] theorem elems_isl (H:Heap) (sz:Nat) (nl:Option Bool) (es:List AV):zaC H sz (.isl nl sz es)=some es:=by simp[zaC]
end Go.Proofs.YtgamobngbenehaaGreatDoor
