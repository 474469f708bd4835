/-
  Equal lists, by a function on their elements (conditions: none). expr.Equal, and equal statements (conditions: none). syntax.Equal (conditions: none). What is valid is equal to itself; parts of what is valid are valid (conditions: none). Arguments with statements in them, read (conditions: none).
-/
import Derived.Test.YtgamobngbenehaaGreatDoorABt
import Derived.Test.YtgamobngbenehaaGreatDoorBBt
section
namespace Go.Proofs.YtgamobngbenehaaGreatDoor
open Go Go.RowKit
set_option linter.unusedVariables false
set_option linter.unusedSimpArgs false
set_option maxRecDepth 10000
end Go.Proofs.YtgamobngbenehaaGreatDoor
end
section
namespace Go.Proofs.YtgamobngbenehaaGreatDoor
open Go Go.RowKit
set_option linter.unusedVariables false
set_option linter.unusedSimpArgs false
set_option maxRecDepth 10000
theorem Ex.eqvs_all2:∀(l m:List Ex),Ex.eqvs l m=all2 Ex.eqv l m
 | [],[]=>by simp only[Ex.eqvs,all2]
 |a::r,b::s=>by simp only[Ex.eqvs,all2,Ex.eqvs_all2 r s]
 | [],b::s=>by simp only[Ex.eqvs,all2]
 |a::r,[]=>by simp only[Ex.eqvs,all2]
end Go.Proofs.YtgamobngbenehaaGreatDoor
end
section
namespace Go.Proofs.YtgamobngbenehaaGreatDoor
open Go Go.RowKit
set_option linter.unusedVariables false
set_option linter.unusedSimpArgs false
set_option maxRecDepth 10000
end Go.Proofs.YtgamobngbenehaaGreatDoor
end
section
namespace Go.Proofs.YtgamobngbenehaaGreatDoor
open Go Go.RowKit
set_option linter.unusedVariables false
set_option linter.unusedSimpArgs false
set_option maxRecDepth 10000
mutual
theorem Ex.eqv_rf:∀e:Ex,e.eqv e=true
 | .mk k o n v _ _ l=>by simp only[Ex.eqv];simp[Ex.kind,Ex.op,Ex.name,Ex.value,Ex.args,Ex.eqvs_rf l]
theorem Ex.eqvs_rf:∀l:List Ex,Ex.eqvs l l=true
 | []=>by simp only[Ex.eqvs]
 |a::r=>by simp only[Ex.eqvs,Ex.eqv_rf a,Ex.eqvs_rf r,Bool.and_true]
end
theorem ze9 {e:Ex} (h:zP e=true):zaI e e=true:=by simp[zaI,h]
theorem zmK {e:Ex} (h:zM e=0):zaI e e=true:=by simp[zaI,zcx,h,Ex.eqv_rf]
theorem zh6 {e:Ex} (h:exI e=0):zaI e e=true:=by
 refine zmK ?_
 unfold exI at h
 split at h
 .assumption
 .rename_i h';exact absurd h h'
theorem zfN {α:Type} {p:α→α→Bool}:∀{l:List α},(∀a∈l,p a a=true)→all2 p l l=true
 | [],_=>rfl
 |a::r,h=>by simp only[all2,h a (by simp),zfN (l:=r) (fun b hb=>h b (by simp[hb])),Bool.and_true]
theorem zpa {x:St} (h:zL x=0):all2 zaI x.exprs.l x.exprs.l=true∧∀c∈x.cs.l,zaI c.expr c.expr=true:=by
 unfold zL at h
 split at h
 .cases h
 .rename_i h1
  split at h
  .cases h
  .rename_i h2
   split at h
   .cases h
   .split at h
    .cases h
    .unfold exsI at h
     have e1:zD (stEx x.kind) x.exprs.l=0:=by
      by_cases hz:zD (stEx x.kind) x.exprs.l=0
      .exact hz
      .rw[if_pos (by simpa using hz)]at h;exact h
     rw[if_neg (by simpa using e1)]at h
     have e2:zD csEx x.cs.l=0:=by
      by_cases hz:zD csEx x.cs.l=0
      .exact hz
      .rw[if_pos (by simpa using hz)]at h;exact h
     refine⟨zfN fun e he=>?_,fun c hc=>?_⟩
     .have:=zaC.1 e1 e he
      unfold stEx at this
      split at this
      .rename_i h;exact ze9 h.2
      .exact zh6 this
     .have h3:=zaC.1 e2 c hc
      unfold csEx at h3
      split at h3
      .exact zh6 h3
      .rename_i hk
       have h4:fldB x (zI x.kind x.op).1=true:=by
        cases hb:fldB x (zI x.kind x.op).1 with
        |true=>rfl
        |false=>exact absurd hb h2
       unfold fldB at h4
       split at h4
       .cases h4
       .split at h4
        .cases h4
        .split at h4
         .have:=of_decide_eq_true h4
          rw[this]at hc;cases hc
         .split at h4
          .have h5:=List.all_eq_true.1 h4 c hc
           unfold casB at h5
           rw[if_neg hk]at h5
           split at h5
           .simp only[Bool.and_eq_true]at h5;exact ze9 h5.1
           .simp only[Bool.and_eq_true]at h5;exact ze9 h5.1.2
          .cases h4
theorem zm5:∀(n:Nat) (l:List St),St.bigs l≤n→(∀x∈St.pres l,zL x=0)→St.eqvs l l=true:=by
 intro n
 induction n using Nat.strongRecOn with
 |ind n ihn=>
  intro l hn h
  rw[St.eqvs_all2]
  refine zfN fun x hx=>?_
  have hbig:=St.bigs_mem hx
  rw[St.big_eq]at hbig
  have hpre:∀y∈x.pre,zL y=0:=by
   intro y hy
   refine h y ?_
   clear h hn hbig ihn
   induction l with
   |nil=>cases hx
   |cons a r ih=>
    simp only[St.pres,List.mem_append]
    cases hx with
    |head=>exact .inl hy
    |tail _ hx=>exact .inr (ih hx)
  rw[St.pre_eq]at hpre
  have h0:=zpa (hpre x (by simp))
  have h1:=ihn (St.bigs x.body.l) (by omega) x.body.l (Nat.le_refl _) (fun y hy=>hpre y (by simp[hy]))
  have h2:=ihn (St.bigs x.els.l) (by omega) x.els.l (Nat.le_refl _) (fun y hy=>hpre y (by simp[hy]))
  have h3:Cs.eqvs x.cs.l x.cs.l=true:=by
   rw[Cs.eqvs_all2]
   refine zfN fun c hc=>?_
   have hb:=Cs.bigs_mem hc
   rw[Cs.big_eq]at hb
   have h4:=ihn (St.bigs c.body.l) (by omega) c.body.l (Nat.le_refl _) (fun y hy=>by
    refine hpre y ?_
    simp only[List.mem_cons,List.mem_append]
    refine .inr (.inr (.inr ?_))
    generalize x.cs.l=L at hc
    induction L with
    |nil=>cases hc
    |cons a r ih=>
     simp only[Cs.pres,Cs.pre_eq,List.mem_append]
     cases hc with
     |head=>exact .inl hy
     |tail _ hc=>exact .inr (ih hc))
   rw[Cs.eqv_eq]
   simp[h0.2 c hc,h4]
  rw[St.eqv_eq]
  simp[h0.1,h1,h2,h3]
theorem zdE {s:So} (h:zaz s=0):s.decls.l.length≤32∧s.procs.l.length≤32∧(s.procs.l.map Pr.cost).sum≤300∧(∀p∈s.procs.l,St.deps p.body.l≤12)∧zD zE s.decls.l=0∧∀p∈s.procs.l,zan p=0:=by
 unfold zaz at h
 split at h
 .cases h
 .rename_i h1
  split at h
  .cases h
  .rename_i h2
   have h3:∀p∈s.procs.l,St.deps p.body.l≤12:=by
    intro p hp
    have h4:¬(12<St.deps p.body.l):=fun h5=>h2 (List.any_eq_true.2 ⟨p,hp,decide_eq_true h5⟩)
    omega
   by_cases h4:zD zE s.decls.l=0
   .rw[if_neg (by simpa using h4)]at h
    exact⟨by omega,by omega,by omega,h3,h4,zaC.1 h⟩
   .rw[if_pos (by simpa using h4)]at h;exact absurd h h4
theorem zu0 {s:So} (h1:s.decls.l.length≤32) (h2:s.procs.l.length≤32) (h3:(s.procs.l.map Pr.cost).sum≤300) (h4:∀p∈s.procs.l,St.deps p.body.l≤12) (h5:zD zE s.decls.l=0) (h6:∀p∈s.procs.l,zan p=0):zaz s=0:=by
 have h7:(s.procs.l.any fun p=>decide (12<St.deps p.body.l))=false:=by
  rw[Bool.eq_false_iff];intro ha
  obtain⟨p,hp,he⟩:=List.any_eq_true.1 ha
  have:=h4 p hp
  have:=of_decide_eq_true he
  omega
 unfold zaz
 rw[if_neg (by omega),h7,if_neg (by simp),if_neg (by simpa using h5)]
 exact zaC.2 h6
theorem zs1 {s t:So} (h:zaz s=0) (hd:t.decls.l=s.decls.l∨t.decls.l=[]) (hl:t.procs.l.length≤s.procs.l.length) (hc:(t.procs.l.map Pr.cost).sum≤(s.procs.l.map Pr.cost).sum) (hm:∀p∈t.procs.l,p∈s.procs.l):zaz t=0:=by
 obtain⟨h1,h2,h3,h4,h5,h6⟩:=zdE h
 refine zu0 ?_ (by omega) (by omega) (fun p hp=>h4 p (hm p hp)) ?_ (fun p hp=>h6 p (hm p hp))
 .rcases hd with hd|hd<;>rw[hd]
  .exact h1
  .simp
 .rcases hd with hd|hd<;>rw[hd]
  .exact h5
  .rfl
end Go.Proofs.YtgamobngbenehaaGreatDoor
end
section
namespace Go.Proofs.YtgamobngbenehaaGreatDoor
open Go Go.RowKit
set_option linter.unusedVariables false
set_option linter.unusedSimpArgs false
set_option maxRecDepth 10000
structure Rd (s:Sh) (a:AV):Prop where
 int:s= .int .i64→∃n,a=I n
 str:s= .str→∃b,a= .str b
 strs:s= .sl false [.str]→∃x:Sl (List UInt8),a=Sl.av AV.str 1 x∧x.l.length≤maxLen
 exs:s= .rcs 61→∃x:Sl Ex,a=Sl.av Ex.av 5 x∧x.l.length≤maxLen
 sts:s= .rcs 57→∃x:Sl St,a=Sl.av St.av 8 x∧x.l.length≤maxLen∧St.fines x.l
 css:s= .rcs 63→∃x:Sl Cs,a=Sl.av Cs.av 9 x∧x.l.length≤maxLen∧Cs.fines x.l
theorem maxL:maxLen≤9223372036854775807:=by decide
theorem znz {l:List St} (h:∀x∈l,x.fine):St.fines l:=by
 induction l with
 |nil=>trivial
 |cons a r ih=>exact⟨h a (by simp),ih fun x hx=>h x (by simp[hx])⟩
theorem zlW {l:List Cs} (h:∀x∈l,x.fine):Cs.fines l:=by
 induction l with
 |nil=>trivial
 |cons a r ih=>exact⟨h a (by simp),ih fun x hx=>h x (by simp[hx])⟩
theorem zmG {α:Type} (f:α→AV) (n:Nat) (m:List α):(.isl (some false) n (m.map f):AV)=Sl.av f n ⟨some false,n,m⟩:=by cases m<;>rfl
theorem zu2 {g:Bool} {l:List Sh} (h:recL 61=some (g,l)):g=true∧l=[.int .i64,.int .i64,.str,.int .i64,.rcs 61]:=by
 have:recL 61=some (true,[.int .i64,.int .i64,.str,.int .i64,.rcs 61]):=by kernel_rfl
 rw[this]at h
 simp only[Option.some.injEq,Prod.mk.injEq]at h
 exact⟨h.1.symm,h.2.symm⟩
theorem zu3 {g:Bool} {l:List Sh} (h:recL 57=some (g,l)):g=true∧l=[.int .i64,.int .i64,.str,.sl false [.str],.rcs 61,.rcs 57,.rcs 57,.rcs 63]:=by
 have:recL 57=some (true,[.int .i64,.int .i64,.str,.sl false [.str],.rcs 61,.rcs 57,.rcs 57,.rcs 63]):=by kernel_rfl
 rw[this]at h
 simp only[Option.some.injEq,Prod.mk.injEq]at h
 exact⟨h.1.symm,h.2.symm⟩
theorem zs9 {g:Bool} {l:List Sh} (h:recL 63=some (g,l)):g=true∧l=[.int .i64,.str,.int .i64,.int .i64,.str,.int .i64,.rcs 61,.sl false [.str],.rcs 57]:=by
 have:recL 63=some (true,[.int .i64,.str,.int .i64,.int .i64,.str,.int .i64,.rcs 61,.sl false [.str],.rcs 57]):=by kernel_rfl
 rw[this]at h
 simp only[Option.some.injEq,Prod.mk.injEq]at h
 exact⟨h.1.symm,h.2.symm⟩
theorem zs6 {e:AV} (hr:zej true 5 e) (ih:∀(j:Nat) (c:AV) (s:Sh),(AV.cells e)[j]?=some c→([.int .i64,.int .i64,.str,.int .i64,.rcs 61]:List Sh)[j]?=some s→Rd s c):∃x:Ex,e=x.av∧True:=by
 obtain⟨cs,rfl,hl⟩:=hr.1 rfl
 match cs,hl with
 | [a0,a1,a2,a3,a4],_=>
  obtain⟨n0,rfl⟩:=(ih 0 _ _ rfl rfl).int rfl
  obtain⟨n1,rfl⟩:=(ih 1 _ _ rfl rfl).int rfl
  obtain⟨n2,rfl⟩:=(ih 2 _ _ rfl rfl).str rfl
  obtain⟨n3,rfl⟩:=(ih 3 _ _ rfl rfl).int rfl
  obtain⟨n4,rfl,_⟩:=(ih 4 _ _ rfl rfl).exs rfl
  exact⟨Ex.of n0 n1 n2 n3 n4,by rw[Ex.av_eq];rfl,trivial⟩
theorem zs5 {e:AV} (hr:zej true 8 e) (ih:∀(j:Nat) (c:AV) (s:Sh),(AV.cells e)[j]?=some c→([.int .i64,.int .i64,.str,.sl false [.str],.rcs 61,.rcs 57,.rcs 57,.rcs 63]:List Sh)[j]?=some s→Rd s c):∃x:St,e=x.av∧x.fine:=by
 obtain⟨cs,rfl,hl⟩:=hr.1 rfl
 match cs,hl with
 | [a0,a1,a2,a3,a4,a5,a6,a7],_=>
  obtain⟨n0,rfl⟩:=(ih 0 _ _ rfl rfl).int rfl
  obtain⟨n1,rfl⟩:=(ih 1 _ _ rfl rfl).int rfl
  obtain⟨n2,rfl⟩:=(ih 2 _ _ rfl rfl).str rfl
  obtain⟨n3,rfl,h3⟩:=(ih 3 _ _ rfl rfl).strs rfl
  obtain⟨n4,rfl,h4⟩:=(ih 4 _ _ rfl rfl).exs rfl
  obtain⟨n5,rfl,h5,k5⟩:=(ih 5 _ _ rfl rfl).sts rfl
  obtain⟨n6,rfl,h6,k6⟩:=(ih 6 _ _ rfl rfl).sts rfl
  obtain⟨n7,rfl,h7,k7⟩:=(ih 7 _ _ rfl rfl).css rfl
  have:=maxL
  refine⟨St.of n0 n1 n2 n3 n4 n5 n6 n7,by rw[St.av_eq];rfl,?_⟩
  rw[St.fine_eq]
  exact⟨Nat.le_trans h4 this,Nat.le_trans h3 this,Nat.le_trans h5 this,Nat.le_trans h6 this,Nat.le_trans h7 this,k5,k6,k7⟩
theorem zs7 {e:AV} (hr:zej true 9 e) (ih:∀(j:Nat) (c:AV) (s:Sh),(AV.cells e)[j]?=some c→([.int .i64,.str,.int .i64,.int .i64,.str,.int .i64,.rcs 61,.sl false [.str],.rcs 57]:List Sh)[j]?=some s→Rd s c):∃x:Cs,e=x.av∧x.fine:=by
 obtain⟨cs,rfl,hl⟩:=hr.1 rfl
 match cs,hl with
 | [a0,a1,a2,a3,a4,a5,a6,a7,a8],_=>
  obtain⟨n0,rfl⟩:=(ih 0 _ _ rfl rfl).int rfl
  obtain⟨n1,rfl⟩:=(ih 1 _ _ rfl rfl).str rfl
  obtain⟨n2,rfl⟩:=(ih 2 _ _ rfl rfl).int rfl
  obtain⟨n3,rfl⟩:=(ih 3 _ _ rfl rfl).int rfl
  obtain⟨n4,rfl⟩:=(ih 4 _ _ rfl rfl).str rfl
  obtain⟨n5,rfl⟩:=(ih 5 _ _ rfl rfl).int rfl
  obtain⟨n6,rfl,h6⟩:=(ih 6 _ _ rfl rfl).exs rfl
  obtain⟨n7,rfl,h7⟩:=(ih 7 _ _ rfl rfl).strs rfl
  obtain⟨n8,rfl,h8,k8⟩:=(ih 8 _ _ rfl rfl).sts rfl
  have:=maxL
  refine⟨Cs.of n0 n1 (Ex.of n2 n3 n4 n5 n6) n7 n8,by rw[Cs.av_eq];rfl,?_⟩
  rw[Cs.fine_eq]
  exact⟨Nat.le_trans h7 this,Nat.le_trans h8 this,k8⟩
theorem zjW {s:Sh} {a:AV} (h:ShOk s a):Rd s a:=by
 induction h with
 |bool b=>exact⟨by rintro⟨⟩,by rintro⟨⟩,by rintro⟨⟩,by rintro⟨⟩,by rintro⟨⟩,by rintro⟨⟩⟩
 |int k n h=>exact⟨by rintro⟨⟩;exact⟨n,rfl⟩,by rintro⟨⟩,by rintro⟨⟩,by rintro⟨⟩,by rintro⟨⟩,by rintro⟨⟩⟩
 |str b h=>exact⟨by rintro⟨⟩,by rintro⟨⟩;exact⟨b,rfl⟩,by rintro⟨⟩,by rintro⟨⟩,by rintro⟨⟩,by rintro⟨⟩⟩
 |nil g l=>exact⟨by rintro⟨⟩,by rintro⟨⟩,by rintro⟨⟩;exact⟨⟨some true,1,[]⟩,rfl,by simp⟩,by rintro⟨⟩,by rintro⟨⟩,by rintro⟨⟩⟩
 |sl g l es hl hr hv ih=>
  refine⟨by rintro⟨⟩,by rintro⟨⟩,?_,by rintro⟨⟩,by rintro⟨⟩,by rintro⟨⟩⟩
  rintro⟨⟩
  obtain⟨m,h1,h2⟩:=zgj (f:=AV.str) (p:=fun _=>True) es (fun e he=>by
   obtain⟨i,hi⟩:=List.getElem?_of_mem he
   have hc:=(hr i e hi).2 rfl
   obtain⟨b,rfl⟩:=(ih i e 0 e .str hi (by rw[hc];rfl) rfl).str rfl
   exact⟨b,rfl,trivial⟩)
  subst h1
  exact⟨⟨some false,1,m⟩,zmG AV.str 1 m,by simpa using hl⟩
 |rnil e g l h=>
  refine⟨by rintro⟨⟩,by rintro⟨⟩,by rintro⟨⟩,?_,?_,?_⟩
  .rintro⟨⟩;exact⟨⟨some true,l.length,[]⟩,rfl,by simp⟩
  .rintro⟨⟩;exact⟨⟨some true,l.length,[]⟩,rfl,by simp,trivial⟩
  .rintro⟨⟩;exact⟨⟨some true,l.length,[]⟩,rfl,by simp,trivial⟩
 |rsl e g l h es hl hr hv ih=>
  refine⟨by rintro⟨⟩,by rintro⟨⟩,by rintro⟨⟩,?_,?_,?_⟩
  .rintro⟨⟩
   obtain⟨rfl,rfl⟩:=zu2 h
   obtain⟨m,h1,h2⟩:=zgj (f:=Ex.av) (p:=fun _=>True) es (fun e he=>by
    obtain⟨i,hi⟩:=List.getElem?_of_mem he
    exact zs6 (hr i e hi) (fun j c s hc hs=>ih i e j c s hi hc hs))
   subst h1
   exact⟨⟨some false,5,m⟩,zmG Ex.av 5 m,by simpa using hl⟩
  .rintro⟨⟩
   obtain⟨rfl,rfl⟩:=zu3 h
   obtain⟨m,h1,h2⟩:=zgj (f:=St.av) (p:=fun x=>x.fine) es (fun e he=>by
    obtain⟨i,hi⟩:=List.getElem?_of_mem he
    exact zs5 (hr i e hi) (fun j c s hc hs=>ih i e j c s hi hc hs))
   subst h1
   exact⟨⟨some false,8,m⟩,zmG St.av 8 m,by simpa using hl,znz h2⟩
  .rintro⟨⟩
   obtain⟨rfl,rfl⟩:=zs9 h
   obtain⟨m,h1,h2⟩:=zgj (f:=Cs.av) (p:=fun x=>x.fine) es (fun e he=>by
    obtain⟨i,hi⟩:=List.getElem?_of_mem he
    exact zs7 (hr i e hi) (fun j c s hc hs=>ih i e j c s hi hc hs))
   subst h1
   exact⟨⟨some false,9,m⟩,zmG Cs.av 9 m,by simpa using hl,zlW h2⟩
def prSh:List Sh:=[.int .i64,.str,.sl false [.str],.int .i64,.rcs 57]
def soSh:List Sh:=[.sl true dcSh,.sl true prSh]
theorem zxq {e:AV} (hr:zej true 5 e) (hv:∀(j:Nat) (c:AV) (s:Sh),(AV.cells e)[j]?=some c→prSh[j]?=some s→ShOk s c):∃p:Pr,e=p.av∧p.fine:=by
 obtain⟨cs,rfl,hl⟩:=hr.1 rfl
 match cs,hl with
 | [a0,a1,a2,a3,a4],_=>
  obtain⟨n0,rfl⟩:=(zjW (hv 0 _ _ rfl rfl)).int rfl
  obtain⟨n1,rfl⟩:=(zjW (hv 1 _ _ rfl rfl)).str rfl
  obtain⟨n2,rfl,h2⟩:=(zjW (hv 2 _ _ rfl rfl)).strs rfl
  obtain⟨n3,rfl⟩:=(zjW (hv 3 _ _ rfl rfl)).int rfl
  obtain⟨n4,rfl,h4,k4⟩:=(zjW (hv 4 _ _ rfl rfl)).sts rfl
  exact⟨⟨n0,n1,n2,n3,n4⟩,rfl,k4,Nat.le_trans h4 maxL,Nat.le_trans h2 maxL⟩
theorem zxp {e:AV} (hr:zej true 2 e) (hv:∀(j:Nat) (c:AV) (s:Sh),(AV.cells e)[j]?=some c→soSh[j]?=some s→ShOk s c):∃s:So,e=s.av∧s.fine:=by
 obtain⟨cs,rfl,hl⟩:=hr.1 rfl
 match cs,hl with
 | [a0,a1],_=>
  obtain⟨n0,h0,w0⟩:=zs2 (f:=Dc.av) (p:=fun _=>True) (fun e h1 h2=>by obtain⟨d,h3,_⟩:=zxs h1 h2;exact⟨d,h3,trivial⟩) (hv 0 _ _ rfl rfl)
  obtain⟨n1,h1,w1⟩:=zs2 (f:=Pr.av) (p:=fun p=>p.fine) (fun e h1 h2=>zxq h1 h2) (hv 1 _ _ rfl rfl)
  subst h0;subst h1
  exact⟨⟨n0,n1⟩,rfl,Nat.le_trans w0.len maxL,Nat.le_trans w1.len maxL,w1.all⟩
theorem zuX {a:AV} (h:zsX (true,soSh) a):∃s:So,a=s.av∧s.fine:=by
 obtain⟨cs,rfl,h1,h2⟩:=h.1 rfl
 exact zxp ⟨fun _=>⟨_,rfl,h1⟩,fun h=>by cases h⟩ (fun j c s hc hs=>h2 j c s hc hs)
end Go.Proofs.YtgamobngbenehaaGreatDoor
end
