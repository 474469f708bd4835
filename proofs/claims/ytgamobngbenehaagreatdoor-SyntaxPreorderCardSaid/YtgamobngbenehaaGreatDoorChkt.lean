/-
  That light code stands for the program's, checked by evaluation (conditions: none).
-/
import Derived.KernelRfl
import Derived.Test.YtgamobngbenehaaGreatDoorOmegat
namespace Go.Proofs.YtgamobngbenehaaGreatDoor
open Go Go.RowKit
set_option linter.unusedVariables false
set_option linter.unusedSimpArgs false
def AV.eq1:AV→AV→Bool
 | .bad,.bad=>true
 | .und,.und=>true
 | .bool a,.bool b=>a==b
 | .int k a,.int k' b=>decide (k=k')&&decide (a=b)
 | .str a,.str b=>decide (a=b)
 | .nilp,.nilp=>true
 | .nilf,.nilf=>true
 | .nili,.nili=>true
 | .nilm,.nilm=>true
 | .unk k,.unk k'=>decide (k=k')
 | .isl (some true) 0 [],.isl (some true) 0 []=>true
 | .clo f [] [],.clo g [] []=>decide (f=g)
 |_,_=>false
theorem AV.eq1_ok {a b:AV} (h:AV.eq1 a b=true):a=b:=by
 unfold AV.eq1 at h
 split at h<;>simp_all
def AV.eqs:List AV→List AV→Bool
 | [],[]=>true
 |a::l,b::m=>AV.eq1 a b&&AV.eqs l m
 |_,_=>false
theorem AV.eqs_ok:∀{l m:List AV},AV.eqs l m=true→l=m
 | [],[],_=>rfl
 |a::l,b::m,h=>by
  simp only[AV.eqs,Bool.and_eq_true]at h
  rw[AV.eq1_ok h.1,AV.eqs_ok h.2]
 | [],_::_,h=>by simp[AV.eqs]at h
 |_::_,[],h=>by simp[AV.eqs]at h
def AV.eqC:AV→AV→Bool
 | .agg a,.agg b=>AV.eqs a b
 | .eptr a,.eptr b=>AV.eqs a b
 |a,b=>AV.eq1 a b
theorem AV.eqC_ok {a b:AV} (h:AV.eqC a b=true):a=b:=by
 unfold AV.eqC at h
 split at h
 .rw[AV.eqs_ok h]
 .rw[AV.eqs_ok h]
 .exact AV.eq1_ok h
def Src.eqB:Src→Src→Bool
 | .t i,.t j=>decide (i=j)
 | .c v,.c w=>AV.eqC v w
 |_,_=>false
theorem Src.eqB_ok {a b:Src} (h:Src.eqB a b=true):a=b:=by
 cases a<;>cases b<;>simp only[Src.eqB,decide_eq_true_eq,Bool.false_eq_true]at h
 .rw[h]
 .rw[AV.eqC_ok h]
def Src.eqsB:List Src→List Src→Bool
 | [],[]=>true
 |a::l,b::m=>Src.eqB a b&&Src.eqsB l m
 |_,_=>false
theorem Src.eqsB_ok:∀{l m:List Src},Src.eqsB l m=true→l=m
 | [],[],_=>rfl
 |a::l,b::m,h=>by
  simp only[Src.eqsB,Bool.and_eq_true]at h
  rw[Src.eqB_ok h.1,Src.eqsB_ok h.2]
 | [],_::_,h=>by simp[Src.eqsB]at h
 |_::_,[],h=>by simp[Src.eqsB]at h
def OpK.eqB:OpK→OpK→Bool
 | .mv,.mv=>true
 | .bin a,.bin b=>decide (a=b)
 | .eqs n a,.eqs m b=>n==m&&decide (a=b)
 | .eqn p n,.eqn q m=>p==q&&n==m
 | .eqb n,.eqb m=>n==m
 | .not,.not=>true
 | .neg,.neg=>true
 | .conv a,.conv b=>decide (a=b)
 | .load i a n,.load j b m=>i==j&&a==b&&decide (n=m)
 | .fld a,.fld b=>decide (a=b)
 | .fldv a n o,.fldv b m p=>a==b&&decide (n=m)&&decide (o=p)
 | .idxa i a,.idxa j b=>i==j&&decide (a=b)
 | .idxs,.idxs=>true
 | .len a,.len b=>a==b
 | .ext a,.ext b=>decide (a=b)
 | .nilchk,.nilchk=>true
 | .bld z p,.bld y q=>AV.eqs z y&&decide (p=q)
 | .clo f n,.clo g m=>decide (f=g)&&decide (n=m)
 | .slc i a n l h,.slc j b m l' h'=>i==j&&a==b&&decide (n=m)&&l==l'&&h==h'
 | .call f,.call g=>decide (f=g)
 | .pcall f,.pcall g=>decide (f=g)
 | .pubcall f,.pubcall g=>decide (f=g)
 | .fcall f,.fcall g=>decide (f=g)
 | .callv,.callv=>true
 | .box n,.box m=>decide (n=m)
 | .store n,.store m=>decide (n=m)
 | .storeA n,.storeA m=>decide (n=m)
 | .appA n,.appA m=>decide (n=m)
 | .bsl i n l z p,.bsl j m l' y q=>i==j&&decide (n=m)&&decide (l=l')&&AV.eqC z y&&decide (p=q)
 | .mksl n z,.mksl m y=>decide (n=m)&&AV.eqC z y
 | .appz n z,.appz m y=>decide (n=m)&&AV.eqC z y
 | .app n,.app m=>decide (n=m)
 | .mn,.mn=>true
 | .mx,.mx=>true
 | .idxp a b,.idxp c d=>decide (a=c)&&decide (b=d)
 | .boxT a b,.boxT c d=>decide (a=c)&&decide (b=d)
 | .loadB a n,.loadB b m=>a==b&&decide (n=m)
 | .storeB n,.storeB m=>decide (n=m)
 | .apps,.apps=>true
 | .appB,.appB=>true
 | .boxH t s,.boxH t' s'=>decide (t=t')&&decide (s=s')
 | .appH t s,.appH t' s'=>decide (t=t')&&decide (s=s')
 | .cap0,.cap0=>true
 | .emp,.emp=>true
 | .lenm,.lenm=>true
 | .rngs,.rngs=>true
 | .nxt,.nxt=>true
 | .rngm,.rngm=>true
 | .ent,.ent=>true
 | .eqi n,.eqi m=>n==m
 | .callA f n,.callA g m=>decide (f=g)&&decide (n=m)
 | .mkslH t s z,.mkslH t' s' z'=>decide (t=t')&&decide (s=s')&&AV.eqC z z'
 | .clr n z,.clr m y=>decide (n=m)&&AV.eqC z y
 | .mkmap,.mkmap=>true
 | .s2b,.s2b=>true
 | .b2s,.b2s=>true
 | .mput n,.mput m=>decide (n=m)
 | .mget n o z,.mget m p y=>decide (n=m)&&o==p&&AV.eqC z y
 |_,_=>false
theorem OpK.eqB_ok {a b:OpK} (h:OpK.eqB a b=true):a=b:=by
 unfold OpK.eqB at h
 split at h<;>simp only[Bool.and_eq_true,decide_eq_true_eq,beq_iff_eq,Bool.false_eq_true]at h
 all_goals first
  |rfl
  |(subst h;rfl)
  |(obtain⟨h1,h2⟩:=h;rw[AV.eqs_ok h1,h2])
  |(obtain⟨⟨⟨⟨h1,h2⟩,h3⟩,h4⟩,h5⟩:=h;rw[h1,h2,h3,AV.eqC_ok h4,h5])
  |(obtain⟨h1,h2⟩:=h;rw[h1,AV.eqC_ok h2])
  |(obtain⟨⟨h1,h2⟩,h3⟩:=h;rw[h1,h2,AV.eqC_ok h3])
  |(obtain⟨⟨⟨⟨h1,h2⟩,h3⟩,h4⟩,h5⟩:=h;rw[h1,h2,h3,h4,h5])
  |(obtain⟨⟨h1,h2⟩,h3⟩:=h;rw[h1,h2,h3])
  |(obtain⟨h1,h2⟩:=h;rw[h1,h2])
  |cases h
def LK.eqB:LK→LK→Bool
 | .op k xs,.op k' xs'=>OpK.eqB k k'&&Src.eqsB xs xs'
 | .pick c a b,.pick c' a' b'=>decide (c=c')&&Src.eqB a a'&&Src.eqB b b'
 |_,_=>false
theorem LK.eqB_ok {a b:LK} (h:LK.eqB a b=true):a=b:=by
 cases a<;>cases b<;>simp only[LK.eqB,Bool.and_eq_true,decide_eq_true_eq,Bool.false_eq_true]at h
 .rw[OpK.eqB_ok h.1,Src.eqsB_ok h.2]
 .rw[h.1.1,Src.eqB_ok h.1.2,Src.eqB_ok h.2]
def LI.eqB (a b:LI):Bool:=decide (a.dst=b.dst)&&LK.eqB a.k b.k&&decide (a.g=b.g)
theorem LI.eqB_ok {a b:LI} (h:LI.eqB a b=true):a=b:=by
 obtain⟨d,k,g⟩:=a
 obtain⟨d',k',g'⟩:=b
 simp only[LI.eqB,Bool.and_eq_true,decide_eq_true_eq]at h
 rw[h.1.1,LK.eqB_ok h.1.2,h.2]
def lisB (P:Program) (N:Nat) (ops:Array Oper):List Oper→List LI→Bool
 | [],[]=>true
 |o::r,i::l=>(match zhD P N ops o with|some j=>LI.eqB j i.erase|none=>false)&&lisB P N ops r l
 |_,_=>false
theorem zks {P:Program} {N:Nat} {ops:Array Oper}:∀{r:List Oper} {l:List LI},lisB P N ops r l=true→zbP P N ops r=some (l.map LI.erase)
 | [],[],_=>rfl
 |o::r,i::l,h=>by
  simp only[lisB,Bool.and_eq_true]at h
  obtain⟨h1,h2⟩:=h
  split at h1
  .rename_i j hj
   simp only[zbP,hj,zks h2,LI.eqB_ok h1,List.map_cons]
  .cases h1
 | [],_::_,h=>by simp[lisB]at h
 |_::_,[],h=>by simp[lisB]at h
def zm6 (o:Operand) (s:Src):Bool:=match zdw o with|some t=>Src.eqB t s|none=>false
theorem zil {o:Operand} {s:Src} (h:zm6 o s=true):zdw o=some s:=by
 unfold zm6 at h
 split at h
 .rename_i t ht;rw[ht,Src.eqB_ok h]
 .cases h
def zS (P:Program) (N:Nat):LC→Code→Bool
 | .any,_=>true
 | .hol _ a,c=>zS P N a c
 | .skip,.skip=>true
 | .skip,.label _=>true
 | .scp b,.scope b'=>zS P N b b'
 | .ret,.ret=>true
 | .exit i,.exit j=>decide (i=j)
 | .reg d inn out l,.region _ ops d'=>d==d'&&lisB P N ops ops.toList (zb2 none l)&&zlV inn l&&(!d||zn3 ops (zb2 none l))
 | .seq a b,.seq a' b'=>zS P N a a'&&zS P N b b'
 | .cond c a b,.cond c' a' b'=>zm6 c' c&&zS P N a a'&&zS P N b b'
 | .block id _ b,.block id' b'=>decide (id=id')&&zS P N b b'
 | .loop _ b,.loop b'=>zS P N b b'
 | .mloop it r ok bk live b,.loop (.seq (.region _ ops false) (.seq (.cond (.tmp ok') .skip (.exit bk')) b'))=>zeN it r ok ops&&decide (ok'=ok)&&decide (bk'=bk)&&decide (r<N)&&decide (ok<N)&&decide (r≠ok)&&live.contains it&& !live.contains r&& !live.contains ok&&zS P N b b'
 | .rng f ps _ ac bd,.rangeFunc f' ps' ac' bd'=>zm6 f' f&&decide (ps'.toList=ps)&&(ps.all fun p=>decide (p<N))&&zaf ac&&zaf bd&&zS P N ac ac'&&zS P N bd bd'
 |_,_=>false
theorem zca {P:Program} {N:Nat}:∀{lc:LC} {c:Code},zS P N lc c=true→zW P N lc c:=by
 intro lc
 induction lc with
 |any=>intro c h;cases c<;>trivial
 |hol ts a ih=>intro c h;simp only[zS]at h;simp only[zW];exact ih h
 |skip=>intro c h;cases c<;>simp only[zS,Bool.false_eq_true]at h<;>trivial
 |ret=>intro c h;cases c<;>simp only[zS,Bool.false_eq_true]at h;trivial
 |exit i=>intro c h;cases c<;>simp only[zS,Bool.false_eq_true,decide_eq_true_eq]at h;exact h
 |reg d inn out l=>
  intro c h
  cases c<;>simp only[zS,Bool.false_eq_true,Bool.and_eq_true,beq_iff_eq,Bool.or_eq_true,Bool.not_eq_true']at h
  obtain⟨⟨⟨h1,h2⟩,h3⟩,h4⟩:=h
  exact⟨h1,zks h2,h3,fun hd=>h4.elim (fun h5=>absurd (hd.symm.trans h5) (by decide)) id⟩
 |seq a b iha ihb=>
  intro c h
  cases c<;>simp only[zS,Bool.false_eq_true,Bool.and_eq_true]at h
  exact⟨iha h.1,ihb h.2⟩
 |cond x a b iha ihb=>
  intro c h
  cases c<;>simp only[zS,Bool.false_eq_true,Bool.and_eq_true]at h
  exact⟨zil h.1.1,iha h.1.2,ihb h.2⟩
 |block id live b ih=>
  intro c h
  cases c<;>simp only[zS,Bool.false_eq_true,Bool.and_eq_true,decide_eq_true_eq]at h
  exact⟨h.1,ih h.2⟩
 |loop live b ih=>
  intro c h
  cases c<;>simp only[zS,Bool.false_eq_true]at h
  exact ih h
 |scp b ih=>intro c h;cases c<;>simp only[zS,Bool.false_eq_true]at h;exact ih h
 |body b ih=>intro c h;cases c<;>exact absurd (show false=true from h) (by simp)
 |dfr t f caps inn r d dc rest ih1 ih2=>intro c h;cases c<;>cases (show false=true from h)
 |mloop it r ok bk live b ih=>
  intro c h
  cases c with
  |loop cl=>cases cl with
   |seq c1 c2=>cases c1 with
    |region rid ops dr=>cases dr with
     |false=>cases c2 with
      |seq c3 cb=>cases c3 with
       |cond co ca cbb=>cases co with
        |tmp ok'=>cases ca with
         |skip=>cases cbb with
          |exit bk'=>
           simp only[zS,Bool.and_eq_true,decide_eq_true_eq,Bool.not_eq_true']at h
           obtain⟨⟨⟨⟨⟨⟨⟨⟨⟨h1,h2⟩,h3⟩,h4⟩,h5⟩,h6⟩,h7⟩,h8⟩,h9⟩,h10⟩:=h
           exact⟨h1,h2,h3,⟨h4,h5,h6,by simpa using h7,by simpa using h8,by simpa using h9⟩,ih h10⟩
          |_=>cases (show false=true from h)
         |_=>cases (show false=true from h)
        |_=>cases (show false=true from h)
       |_=>cases (show false=true from h)
      |_=>cases (show false=true from h)
     |true=>cases (show false=true from h)
    |_=>cases (show false=true from h)
   |_=>cases (show false=true from h)
  |_=>cases (show false=true from h)
 |rng f ps inn ac bd iha ihb=>
  intro c h
  cases c<;>simp only[zS,Bool.false_eq_true,Bool.and_eq_true,decide_eq_true_eq]at h
  obtain⟨⟨⟨⟨⟨⟨h1,h2⟩,h3⟩,h4⟩,h5⟩,h6⟩,h7⟩:=h
  exact⟨zil h1,by rw[←h2],h3,h4,h5,iha h6,ihb h7⟩
def zlS (P:Program) (f:FuncId) (ncap r d:Nat) (dc:LC):Bool:=match P.funcs[f]? with
 |some fn=>match fn.body with
  |some (.seq (.region _ dops false) cr)=>(fn.name== "runtime.NumGoroutine")==false&&zfk r d dops&&decide (r<fn.ntmps)&&decide (d<fn.ntmps)&&decide (ncap≤fn.ntmps)&&zaf dc&&zS P fn.ntmps dc cr&&decide (fn.results.toList.length=0)
  |_=>false
 |none=>false
theorem zlR {P:Program} {f:FuncId} {ncap r d:Nat} {dc:LC} (h:zlS P f ncap r d dc=true):zov P f ncap r d dc:=by
 unfold zlS at h
 split at h
 .rename_i fn h1
  split at h
  .rename_i rid dops cr h2
   simp only[Bool.and_eq_true,decide_eq_true_eq,beq_iff_eq]at h
   obtain⟨⟨⟨⟨⟨⟨⟨a1,a2⟩,a3⟩,a4⟩,a5⟩,a6⟩,a7⟩,a8⟩:=h
   exact⟨fn,rid,dops,cr,h1,h2,a1,a2,a3,a4,a5,a6,zca a7,by apply Array.ext';simpa using List.length_eq_zero_iff.1 a8⟩
  .cases h
 .cases h
def zb9 (P:Program) (N:Nat):LC→Code→Bool
 | .seq a b,.seq a' b'=>zS P N a a'&&zb9 P N b b'
 | .dfr t f caps _ r d dc rest,.seq (.region _ ops false) cr=>zd5 t f caps ops&&decide (t<N)&&zlS P f caps.length r d dc&&zb9 P N rest cr
 |lc,c=>zS P N lc c
theorem zhm {P:Program} {N:Nat}:∀{lc:LC} {c:Code},zb9 P N lc c=true→zbu P N lc c:=by
 intro lc
 induction lc with
 |seq a b iha ihb=>
  intro c h
  cases c with
  |seq c1 c2=>
   simp only[zb9,Bool.and_eq_true]at h
   exact⟨zca h.1,ihb h.2⟩
  |_=>cases (show false=true from h)
 |dfr t f caps inn r d dc rest ih1 ih2=>
  intro c h
  cases c with
  |seq c1 cr=>cases c1 with
   |region rid ops dr=>cases dr with
    |false=>
     simp only[zb9,Bool.and_eq_true,decide_eq_true_eq]at h
     exact⟨h.1.1.1,h.1.1.2,zlR h.1.2,ih2 h.2⟩
    |true=>cases (show false=true from h)
   |_=>cases (show false=true from h)
  |_=>cases (show false=true from h)
 |_=>intro c h;exact zca h
def zh1 (P:Program) (N:Nat) (lc:LC) (c:Code):Bool:=match lc with| .body b=>zb9 P N b c|lc=>zS P N lc c
theorem zhl {P:Program} {N:Nat} {lc:LC} {c:Code} (h:zh1 P N lc c=true):zhY P N lc c:=by
 cases lc with
 |body b=>exact zhm h
 |_=>exact zca h
def resB (P:Program):RV→ResultVar→Bool
 | .tmp t,.tmp t'=>decide (t=t')
 | .cell t g n,.cell a ty=>decide (t=a)&&decide (aggT P ty=some g)&&decide (szT P ty=some n)
 |_,_=>false
def ziX (P:Program):List RV→List ResultVar→Bool
 | [],[]=>true
 |a::l,b::m=>resB P a b&&ziX P l m
 |_,_=>false
theorem zia {P:Program}:∀{l:List RV} {m:List ResultVar},ziX P l m=true→zdW P l m
 | [],[],_=>trivial
 |a::l,b::m,h=>by
  simp only[ziX,Bool.and_eq_true]at h
  refine⟨?_,zia h.2⟩
  have h1:=h.1
  cases a<;>cases b<;>simp only[resB,Bool.false_eq_true,decide_eq_true_eq,Bool.and_eq_true]at h1
  .exact h1
  .exact⟨h1.1.1,h1.1.2,h1.2⟩
 | [],_::_,h=>by simp[ziX]at h
 |_::_,[],h=>by simp[ziX]at h
def zl (P:Program) (f:FuncId) (fi:FI):Bool:=
 match P.funcs[f]? with
 |some fn=>match fn.body with
  |some code=>(fn.name== "runtime.NumGoroutine")==false&&decide (fn.ntmps=fi.ntmps)&&decide (fi.np≤fi.ntmps)&&zh1 P fi.ntmps fi.lc code&&ziX P fi.res fn.results.toList
  |none=>false
 |none=>false
theorem zny {P:Program} {f:FuncId} {fi:FI} (h:zl P f fi=true):FnOK P f fi:=by
 unfold zl at h
 split at h
 .rename_i fn h1
  split at h
  .rename_i code h2
   simp only[Bool.and_eq_true,decide_eq_true_eq,beq_iff_eq]at h
   obtain⟨⟨⟨⟨a,b⟩,c⟩,d⟩,e⟩:=h
   exact⟨fn,code,h1,h2,a,b,c,zhl d,zia e⟩
  .cases h
 .cases h
def look (l:List (Nat×FI)) (f:FuncId):Option FI:=match l with| []=>none|p::r=>if f=p.1 then some p.2 else look r f
def zms (P:Program):List (Nat×FI)→Prop| []=>True|p::r=>zl P p.1 p.2=true∧zms P r
theorem zmr (P:Program):zms P []↔True:=Iff.rfl
theorem zjC (P:Program) (f:Nat) (fi:FI) (r:List (Nat×FI)):zms P ((f,fi)::r)↔zl P f fi=true∧zms P r:=Iff.rfl
theorem zkq {P:Program}:∀{l:List (Nat×FI)},zms P l→∀f fi,look l f=some fi→FnOK P f fi
 | [],_,f,fi,h=>by simp[look]at h
 |p::r,hl,f,fi,h=>by
  unfold look at h
  split at h
  .rename_i hf
   cases h
   rw[hf];exact zny hl.1
  .exact zkq hl.2 f fi h
abbrev oo (d:Nat) (k:OpK) (l:List Src):SI:= .op (some d) k l
abbrev kk (n:Int):Src:= .c (.int .i64 n)
abbrev mm (d s:Nat):SI:= .op (some d) .mv [.t s]
abbrev ll (d s:Nat):SI:= .op (some d) (.load false false 1) [.t s]
abbrev ff (d n s:Nat):SI:= .op (some d) (.fld n) [.t s]
abbrev sr (a b:List Nat) (l:List SI) (x:LC):LC:= .seq (.reg false a b l) x
abbrev st (a b:List Nat) (l:List SI) (x:LC):LC:= .seq (.reg true a b l) x
abbrev L1:OpK:= .load false false 1
abbrev Lt (n:Nat):OpK:= .load false true n
abbrev Be:OpK:= .bin .eql
abbrev Ba:OpK:= .bin .add
abbrev Bl:OpK:= .bin .lss
abbrev Bn:OpK:= .bin .neq
abbrev Ln:OpK:= .len false
end Go.Proofs.YtgamobngbenehaaGreatDoor
