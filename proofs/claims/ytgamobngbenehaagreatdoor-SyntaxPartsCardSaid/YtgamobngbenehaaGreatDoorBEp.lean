/-
  Equal lists, by a function on their elements (conditions: none). expr.Equal, and equal statements (conditions: none). syntax.Equal (conditions: none). What is valid is equal to itself; parts of what is valid are valid (conditions: none). Arguments with statements in them, read (conditions: none).
-/
import Derived.Test.YtgamobngbenehaaGreatDoorABp
import Derived.Test.YtgamobngbenehaaGreatDoorBBp
section
namespace Go.Proofs.YtgamobngbenehaaGreatDoor
open Go Go.RowKit
set_option linter.unusedVariables false
set_option linter.unusedSimpArgs false
set_option maxRecDepth 10000
end Go.Proofs.YtgamobngbenehaaGreatDoor
end
section
namespace Go.Proofs.YtgamobngbenehaaGreatDoor
open Go Go.RowKit
set_option linter.unusedVariables false
set_option linter.unusedSimpArgs false
set_option maxRecDepth 10000
end Go.Proofs.YtgamobngbenehaaGreatDoor
end
section
namespace Go.Proofs.YtgamobngbenehaaGreatDoor
open Go Go.RowKit
set_option linter.unusedVariables false
set_option linter.unusedSimpArgs false
set_option maxRecDepth 10000
end Go.Proofs.YtgamobngbenehaaGreatDoor
end
section
namespace Go.Proofs.YtgamobngbenehaaGreatDoor
open Go Go.RowKit
set_option linter.unusedVariables false
set_option linter.unusedSimpArgs false
set_option maxRecDepth 10000
theorem zff {s:So} (h:zaA s=0):s.decls.l.length≤32∧s.procs.l.length≤32∧(s.procs.l.map Pr.cost).sum≤300∧(∀p∈s.procs.l,St.deps p.body.l≤12)∧zY zC s.decls.l=0∧∀p∈s.procs.l,zav p=0:=by
 unfold zaA at h
 split at h
 .cases h
 .rename_i h1
  split at h
  .cases h
  .rename_i h2
   have h3:∀p∈s.procs.l,St.deps p.body.l≤12:=by
    intro p hp
    have h4:¬(12<St.deps p.body.l):=fun h5=>h2 (List.any_eq_true.2 ⟨p,hp,decide_eq_true h5⟩)
    omega
   by_cases h4:zY zC s.decls.l=0
   .rw[if_neg (by simpa using h4)]at h
    exact⟨by omega,by omega,by omega,h3,h4,zbO.1 h⟩
   .rw[if_pos (by simpa using h4)]at h;exact absurd h h4
theorem zrg {s:So} (h1:s.decls.l.length≤32) (h2:s.procs.l.length≤32) (h3:(s.procs.l.map Pr.cost).sum≤300) (h4:∀p∈s.procs.l,St.deps p.body.l≤12) (h5:zY zC s.decls.l=0) (h6:∀p∈s.procs.l,zav p=0):zaA s=0:=by
 have h7:(s.procs.l.any fun p=>decide (12<St.deps p.body.l))=false:=by
  rw[Bool.eq_false_iff];intro ha
  obtain⟨p,hp,he⟩:=List.any_eq_true.1 ha
  have:=h4 p hp
  have:=of_decide_eq_true he
  omega
 unfold zaA
 rw[if_neg (by omega),h7,if_neg (by simp),if_neg (by simpa using h5)]
 exact zbO.2 h6
theorem znf {s t:So} (h:zaA s=0) (hd:t.decls.l=s.decls.l∨t.decls.l=[]) (hl:t.procs.l.length≤s.procs.l.length) (hc:(t.procs.l.map Pr.cost).sum≤(s.procs.l.map Pr.cost).sum) (hm:∀p∈t.procs.l,p∈s.procs.l):zaA t=0:=by
 obtain⟨h1,h2,h3,h4,h5,h6⟩:=zff h
 refine zrg ?_ (by omega) (by omega) (fun p hp=>h4 p (hm p hp)) ?_ (fun p hp=>h6 p (hm p hp))
 .rcases hd with hd|hd<;>rw[hd]
  .exact h1
  .simp
 .rcases hd with hd|hd<;>rw[hd]
  .exact h5
  .rfl
end Go.Proofs.YtgamobngbenehaaGreatDoor
end
section
namespace Go.Proofs.YtgamobngbenehaaGreatDoor
open Go Go.RowKit
set_option linter.unusedVariables false
set_option linter.unusedSimpArgs false
set_option maxRecDepth 10000
structure Rd (s:Sh) (a:AV):Prop where
 int:s= .int .i64→∃n,a=I n
 str:s= .str→∃b,a= .str b
 strs:s= .sl false [.str]→∃x:Sl (List UInt8),a=Sl.av AV.str 1 x∧x.l.length≤maxLen
 exs:s= .rcs 61→∃x:Sl Ex,a=Sl.av Ex.av 5 x∧x.l.length≤maxLen
 sts:s= .rcs 57→∃x:Sl St,a=Sl.av St.av 8 x∧x.l.length≤maxLen∧St.fines x.l
 css:s= .rcs 63→∃x:Sl Cs,a=Sl.av Cs.av 9 x∧x.l.length≤maxLen∧Cs.fines x.l
theorem maxL:maxLen≤9223372036854775807:=by decide
theorem zms {l:List St} (h:∀x∈l,x.fine):St.fines l:=by
 induction l with
 |nil=>trivial
 |cons a r ih=>exact⟨h a (by simp),ih fun x hx=>h x (by simp[hx])⟩
theorem zk7 {l:List Cs} (h:∀x∈l,x.fine):Cs.fines l:=by
 induction l with
 |nil=>trivial
 |cons a r ih=>exact⟨h a (by simp),ih fun x hx=>h x (by simp[hx])⟩
theorem zlI {α:Type} (f:α→AV) (n:Nat) (m:List α):(.isl (some false) n (m.map f):AV)=Sl.av f n ⟨some false,n,m⟩:=by cases m<;>rfl
theorem zri {g:Bool} {l:List Sh} (h:recL 61=some (g,l)):g=true∧l=[.int .i64,.int .i64,.str,.int .i64,.rcs 61]:=by
 have:recL 61=some (true,[.int .i64,.int .i64,.str,.int .i64,.rcs 61]):=by kernel_rfl
 rw[this]at h
 simp only[Option.some.injEq,Prod.mk.injEq]at h
 exact⟨h.1.symm,h.2.symm⟩
theorem zrj {g:Bool} {l:List Sh} (h:recL 57=some (g,l)):g=true∧l=[.int .i64,.int .i64,.str,.sl false [.str],.rcs 61,.rcs 57,.rcs 57,.rcs 63]:=by
 have:recL 57=some (true,[.int .i64,.int .i64,.str,.sl false [.str],.rcs 61,.rcs 57,.rcs 57,.rcs 63]):=by kernel_rfl
 rw[this]at h
 simp only[Option.some.injEq,Prod.mk.injEq]at h
 exact⟨h.1.symm,h.2.symm⟩
theorem zpQ {g:Bool} {l:List Sh} (h:recL 63=some (g,l)):g=true∧l=[.int .i64,.str,.int .i64,.int .i64,.str,.int .i64,.rcs 61,.sl false [.str],.rcs 57]:=by
 have:recL 63=some (true,[.int .i64,.str,.int .i64,.int .i64,.str,.int .i64,.rcs 61,.sl false [.str],.rcs 57]):=by kernel_rfl
 rw[this]at h
 simp only[Option.some.injEq,Prod.mk.injEq]at h
 exact⟨h.1.symm,h.2.symm⟩
theorem zpN {e:AV} (hr:zeo true 5 e) (ih:∀(j:Nat) (c:AV) (s:Sh),(AV.cells e)[j]?=some c→([.int .i64,.int .i64,.str,.int .i64,.rcs 61]:List Sh)[j]?=some s→Rd s c):∃x:Ex,e=x.av∧True:=by
 obtain⟨cs,rfl,hl⟩:=hr.1 rfl
 match cs,hl with
 | [a0,a1,a2,a3,a4],_=>
  obtain⟨n0,rfl⟩:=(ih 0 _ _ rfl rfl).int rfl
  obtain⟨n1,rfl⟩:=(ih 1 _ _ rfl rfl).int rfl
  obtain⟨n2,rfl⟩:=(ih 2 _ _ rfl rfl).str rfl
  obtain⟨n3,rfl⟩:=(ih 3 _ _ rfl rfl).int rfl
  obtain⟨n4,rfl,_⟩:=(ih 4 _ _ rfl rfl).exs rfl
  exact⟨Ex.of n0 n1 n2 n3 n4,by rw[Ex.av_eq];rfl,trivial⟩
theorem zpM {e:AV} (hr:zeo true 8 e) (ih:∀(j:Nat) (c:AV) (s:Sh),(AV.cells e)[j]?=some c→([.int .i64,.int .i64,.str,.sl false [.str],.rcs 61,.rcs 57,.rcs 57,.rcs 63]:List Sh)[j]?=some s→Rd s c):∃x:St,e=x.av∧x.fine:=by
 obtain⟨cs,rfl,hl⟩:=hr.1 rfl
 match cs,hl with
 | [a0,a1,a2,a3,a4,a5,a6,a7],_=>
  obtain⟨n0,rfl⟩:=(ih 0 _ _ rfl rfl).int rfl
  obtain⟨n1,rfl⟩:=(ih 1 _ _ rfl rfl).int rfl
  obtain⟨n2,rfl⟩:=(ih 2 _ _ rfl rfl).str rfl
  obtain⟨n3,rfl,h3⟩:=(ih 3 _ _ rfl rfl).strs rfl
  obtain⟨n4,rfl,h4⟩:=(ih 4 _ _ rfl rfl).exs rfl
  obtain⟨n5,rfl,h5,k5⟩:=(ih 5 _ _ rfl rfl).sts rfl
  obtain⟨n6,rfl,h6,k6⟩:=(ih 6 _ _ rfl rfl).sts rfl
  obtain⟨n7,rfl,h7,k7⟩:=(ih 7 _ _ rfl rfl).css rfl
  have:=maxL
  refine⟨St.of n0 n1 n2 n3 n4 n5 n6 n7,by rw[St.av_eq];rfl,?_⟩
  rw[St.fine_eq]
  exact⟨Nat.le_trans h4 this,Nat.le_trans h3 this,Nat.le_trans h5 this,Nat.le_trans h6 this,Nat.le_trans h7 this,k5,k6,k7⟩
theorem zpO {e:AV} (hr:zeo true 9 e) (ih:∀(j:Nat) (c:AV) (s:Sh),(AV.cells e)[j]?=some c→([.int .i64,.str,.int .i64,.int .i64,.str,.int .i64,.rcs 61,.sl false [.str],.rcs 57]:List Sh)[j]?=some s→Rd s c):∃x:Cs,e=x.av∧x.fine:=by
 obtain⟨cs,rfl,hl⟩:=hr.1 rfl
 match cs,hl with
 | [a0,a1,a2,a3,a4,a5,a6,a7,a8],_=>
  obtain⟨n0,rfl⟩:=(ih 0 _ _ rfl rfl).int rfl
  obtain⟨n1,rfl⟩:=(ih 1 _ _ rfl rfl).str rfl
  obtain⟨n2,rfl⟩:=(ih 2 _ _ rfl rfl).int rfl
  obtain⟨n3,rfl⟩:=(ih 3 _ _ rfl rfl).int rfl
  obtain⟨n4,rfl⟩:=(ih 4 _ _ rfl rfl).str rfl
  obtain⟨n5,rfl⟩:=(ih 5 _ _ rfl rfl).int rfl
  obtain⟨n6,rfl,h6⟩:=(ih 6 _ _ rfl rfl).exs rfl
  obtain⟨n7,rfl,h7⟩:=(ih 7 _ _ rfl rfl).strs rfl
  obtain⟨n8,rfl,h8,k8⟩:=(ih 8 _ _ rfl rfl).sts rfl
  have:=maxL
  refine⟨Cs.of n0 n1 (Ex.of n2 n3 n4 n5 n6) n7 n8,by rw[Cs.av_eq];rfl,?_⟩
  rw[Cs.fine_eq]
  exact⟨Nat.le_trans h7 this,Nat.le_trans h8 this,k8⟩
theorem zjz {s:Sh} {a:AV} (h:ShOk s a):Rd s a:=by
 induction h with
 |bool b=>exact⟨by rintro⟨⟩,by rintro⟨⟩,by rintro⟨⟩,by rintro⟨⟩,by rintro⟨⟩,by rintro⟨⟩⟩
 |int k n h=>exact⟨by rintro⟨⟩;exact⟨n,rfl⟩,by rintro⟨⟩,by rintro⟨⟩,by rintro⟨⟩,by rintro⟨⟩,by rintro⟨⟩⟩
 |str b h=>exact⟨by rintro⟨⟩,by rintro⟨⟩;exact⟨b,rfl⟩,by rintro⟨⟩,by rintro⟨⟩,by rintro⟨⟩,by rintro⟨⟩⟩
 |nil g l=>exact⟨by rintro⟨⟩,by rintro⟨⟩,by rintro⟨⟩;exact⟨⟨some true,1,[]⟩,rfl,by simp⟩,by rintro⟨⟩,by rintro⟨⟩,by rintro⟨⟩⟩
 |sl g l es hl hr hv ih=>
  refine⟨by rintro⟨⟩,by rintro⟨⟩,?_,by rintro⟨⟩,by rintro⟨⟩,by rintro⟨⟩⟩
  rintro⟨⟩
  obtain⟨m,h1,h2⟩:=zge (f:=AV.str) (p:=fun _=>True) es (fun e he=>by
   obtain⟨i,hi⟩:=List.getElem?_of_mem he
   have hc:=(hr i e hi).2 rfl
   obtain⟨b,rfl⟩:=(ih i e 0 e .str hi (by rw[hc];rfl) rfl).str rfl
   exact⟨b,rfl,trivial⟩)
  subst h1
  exact⟨⟨some false,1,m⟩,zlI AV.str 1 m,by simpa using hl⟩
 |rnil e g l h=>
  refine⟨by rintro⟨⟩,by rintro⟨⟩,by rintro⟨⟩,?_,?_,?_⟩
  .rintro⟨⟩;exact⟨⟨some true,l.length,[]⟩,rfl,by simp⟩
  .rintro⟨⟩;exact⟨⟨some true,l.length,[]⟩,rfl,by simp,trivial⟩
  .rintro⟨⟩;exact⟨⟨some true,l.length,[]⟩,rfl,by simp,trivial⟩
 |rsl e g l h es hl hr hv ih=>
  refine⟨by rintro⟨⟩,by rintro⟨⟩,by rintro⟨⟩,?_,?_,?_⟩
  .rintro⟨⟩
   obtain⟨rfl,rfl⟩:=zri h
   obtain⟨m,h1,h2⟩:=zge (f:=Ex.av) (p:=fun _=>True) es (fun e he=>by
    obtain⟨i,hi⟩:=List.getElem?_of_mem he
    exact zpN (hr i e hi) (fun j c s hc hs=>ih i e j c s hi hc hs))
   subst h1
   exact⟨⟨some false,5,m⟩,zlI Ex.av 5 m,by simpa using hl⟩
  .rintro⟨⟩
   obtain⟨rfl,rfl⟩:=zrj h
   obtain⟨m,h1,h2⟩:=zge (f:=St.av) (p:=fun x=>x.fine) es (fun e he=>by
    obtain⟨i,hi⟩:=List.getElem?_of_mem he
    exact zpM (hr i e hi) (fun j c s hc hs=>ih i e j c s hi hc hs))
   subst h1
   exact⟨⟨some false,8,m⟩,zlI St.av 8 m,by simpa using hl,zms h2⟩
  .rintro⟨⟩
   obtain⟨rfl,rfl⟩:=zpQ h
   obtain⟨m,h1,h2⟩:=zge (f:=Cs.av) (p:=fun x=>x.fine) es (fun e he=>by
    obtain⟨i,hi⟩:=List.getElem?_of_mem he
    exact zpO (hr i e hi) (fun j c s hc hs=>ih i e j c s hi hc hs))
   subst h1
   exact⟨⟨some false,9,m⟩,zlI Cs.av 9 m,by simpa using hl,zk7 h2⟩
def prSh:List Sh:=[.int .i64,.str,.sl false [.str],.int .i64,.rcs 57]
def soSh:List Sh:=[.sl true dcSh,.sl true prSh]
theorem zth {e:AV} (hr:zeo true 5 e) (hv:∀(j:Nat) (c:AV) (s:Sh),(AV.cells e)[j]?=some c→prSh[j]?=some s→ShOk s c):∃p:Pr,e=p.av∧p.fine:=by
 obtain⟨cs,rfl,hl⟩:=hr.1 rfl
 match cs,hl with
 | [a0,a1,a2,a3,a4],_=>
  obtain⟨n0,rfl⟩:=(zjz (hv 0 _ _ rfl rfl)).int rfl
  obtain⟨n1,rfl⟩:=(zjz (hv 1 _ _ rfl rfl)).str rfl
  obtain⟨n2,rfl,h2⟩:=(zjz (hv 2 _ _ rfl rfl)).strs rfl
  obtain⟨n3,rfl⟩:=(zjz (hv 3 _ _ rfl rfl)).int rfl
  obtain⟨n4,rfl,h4,k4⟩:=(zjz (hv 4 _ _ rfl rfl)).sts rfl
  exact⟨⟨n0,n1,n2,n3,n4⟩,rfl,k4,Nat.le_trans h4 maxL,Nat.le_trans h2 maxL⟩
theorem ztg {e:AV} (hr:zeo true 2 e) (hv:∀(j:Nat) (c:AV) (s:Sh),(AV.cells e)[j]?=some c→soSh[j]?=some s→ShOk s c):∃s:So,e=s.av∧s.fine:=by
 obtain⟨cs,rfl,hl⟩:=hr.1 rfl
 match cs,hl with
 | [a0,a1],_=>
  obtain⟨n0,h0,w0⟩:=zpK (f:=Dc.av) (p:=fun _=>True) (fun e h1 h2=>by obtain⟨d,h3,_⟩:=ztj h1 h2;exact⟨d,h3,trivial⟩) (hv 0 _ _ rfl rfl)
  obtain⟨n1,h1,w1⟩:=zpK (f:=Pr.av) (p:=fun p=>p.fine) (fun e h1 h2=>zth h1 h2) (hv 1 _ _ rfl rfl)
  subst h0;subst h1
  exact⟨⟨n0,n1⟩,rfl,Nat.le_trans w0.len maxL,Nat.le_trans w1.len maxL,w1.all⟩
theorem zq9 {a:AV} (h:zm9 (true,soSh) a):∃s:So,a=s.av∧s.fine:=by
 obtain⟨cs,rfl,h1,h2⟩:=h.1 rfl
 exact ztg ⟨fun _=>⟨_,rfl,h1⟩,fun h=>by cases h⟩ (fun j c s hc hs=>h2 j c s hc hs)
end Go.Proofs.YtgamobngbenehaaGreatDoor
end
