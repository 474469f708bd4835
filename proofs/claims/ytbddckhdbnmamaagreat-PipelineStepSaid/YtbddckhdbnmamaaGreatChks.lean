/-
  That light code stands for the program's, checked by evaluation (conditions: none).
-/
import Derived.KernelRfl
import Derived.Test.YtbddckhdbnmamaaGreatOmegas
namespace Go.Proofs.YtbddckhdbnmamaaGreat
open Go Go.RowKit
set_option linter.unusedVariables false
set_option linter.unusedSimpArgs false
def AV.eq1:AV→AV→Bool
 | .bad,.bad=>true
 | .und,.und=>true
 | .bool a,.bool b=>a==b
 | .int k a,.int k' b=>decide (k=k')&&decide (a=b)
 | .str a,.str b=>decide (a=b)
 | .nilp,.nilp=>true
 | .nilf,.nilf=>true
 | .nili,.nili=>true
 | .nilm,.nilm=>true
 | .unk k,.unk k'=>decide (k=k')
 | .isl (some true) 0 [],.isl (some true) 0 []=>true
 | .clo f [] [],.clo g [] []=>decide (f=g)
 |_,_=>false
theorem AV.eq1_ok {a b:AV} (h:AV.eq1 a b=true):a=b:=by
 unfold AV.eq1 at h
 split at h<;>simp_all
def AV.eqs:List AV→List AV→Bool
 | [],[]=>true
 |a::l,b::m=>AV.eq1 a b&&AV.eqs l m
 |_,_=>false
theorem AV.eqs_ok:∀{l m:List AV},AV.eqs l m=true→l=m
 | [],[],_=>rfl
 |a::l,b::m,h=>by
  simp only[AV.eqs,bAt]at h
  rw[AV.eq1_ok h.1,AV.eqs_ok h.2]
 | [],_::_,h=>by simp[AV.eqs]at h
 |_::_,[],h=>by simp[AV.eqs]at h
def AV.eqC:AV→AV→Bool
 | .agg a,.agg b=>AV.eqs a b
 | .eptr a,.eptr b=>AV.eqs a b
 |a,b=>AV.eq1 a b
theorem AV.eqC_ok {a b:AV} (h:AV.eqC a b=true):a=b:=by
 unfold AV.eqC at h
 split at h
 .rw[AV.eqs_ok h]
 .rw[AV.eqs_ok h]
 .exact AV.eq1_ok h
def Src.eqB:Src→Src→Bool
 | .t i,.t j=>decide (i=j)
 | .c v,.c w=>AV.eqC v w
 |_,_=>false
theorem Src.eqB_ok {a b:Src} (h:Src.eqB a b=true):a=b:=by
 cases a<;>cases b<;>simp only[Src.eqB,dTe,bFt]at h
 .rw[h]
 .rw[AV.eqC_ok h]
def Src.eqsB:List Src→List Src→Bool
 | [],[]=>true
 |a::l,b::m=>Src.eqB a b&&Src.eqsB l m
 |_,_=>false
theorem Src.eqsB_ok:∀{l m:List Src},Src.eqsB l m=true→l=m
 | [],[],_=>rfl
 |a::l,b::m,h=>by
  simp only[Src.eqsB,bAt]at h
  rw[Src.eqB_ok h.1,Src.eqsB_ok h.2]
 | [],_::_,h=>by simp[Src.eqsB]at h
 |_::_,[],h=>by simp[Src.eqsB]at h
def OpK.eqB:OpK→OpK→Bool
 | .mv,.mv=>true
 | .bin a,.bin b=>decide (a=b)
 | .eqs n a,.eqs m b=>n==m&&decide (a=b)
 | .eqn p n,.eqn q m=>p==q&&n==m
 | .eqb n,.eqb m=>n==m
 | .not,.not=>true
 | .neg,.neg=>true
 | .conv a,.conv b=>decide (a=b)
 | .load i a n,.load j b m=>i==j&&a==b&&decide (n=m)
 | .fld a,.fld b=>decide (a=b)
 | .fldv a n o,.fldv b m p=>a==b&&decide (n=m)&&decide (o=p)
 | .idxa i a,.idxa j b=>i==j&&decide (a=b)
 | .idxs,.idxs=>true
 | .len a,.len b=>a==b
 | .ext a,.ext b=>decide (a=b)
 | .nilchk,.nilchk=>true
 | .bld z p,.bld y q=>AV.eqs z y&&decide (p=q)
 | .clo f n,.clo g m=>decide (f=g)&&decide (n=m)
 | .slc i a n l h,.slc j b m l' h'=>i==j&&a==b&&decide (n=m)&&l==l'&&h==h'
 | .call f,.call g=>decide (f=g)
 | .pcall f,.pcall g=>decide (f=g)
 | .pubcall f,.pubcall g=>decide (f=g)
 | .fcall f,.fcall g=>decide (f=g)
 | .callv,.callv=>true
 | .box n,.box m=>decide (n=m)
 | .store n,.store m=>decide (n=m)
 | .storeA n,.storeA m=>decide (n=m)
 | .appA n,.appA m=>decide (n=m)
 | .bsl i n l z p,.bsl j m l' y q=>i==j&&decide (n=m)&&decide (l=l')&&AV.eqC z y&&decide (p=q)
 | .mksl n z,.mksl m y=>decide (n=m)&&AV.eqC z y
 | .app n,.app m=>decide (n=m)
 | .mn,.mn=>true
 | .mx,.mx=>true
 | .idxp a b,.idxp c d=>decide (a=c)&&decide (b=d)
 | .boxH t s,.boxH t' s'=>decide (t=t')&&decide (s=s')
 | .rngs,.rngs=>true
 | .nxt,.nxt=>true
 | .callA f n,.callA g m=>decide (f=g)&&decide (n=m)
 | .mkslH t s z,.mkslH t' s' z'=>decide (t=t')&&decide (s=s')&&AV.eqC z z'
 | .clr n z,.clr m y=>decide (n=m)&&AV.eqC z y
 | .cpy,.cpy=>true
 | .mkmap,.mkmap=>true
 | .mput n,.mput m=>decide (n=m)
 | .mget n o z,.mget m p y=>decide (n=m)&&o==p&&AV.eqC z y
 |_,_=>false
theorem OpK.eqB_ok {a b:OpK} (h:OpK.eqB a b=true):a=b:=by
 unfold OpK.eqB at h
 split at h<;>simp only[bAt,dTe,beq_iff_eq,bFt]at h
 all_goals first
  |rfl
  |(subst h;rfl)
  |(obtain⟨h1,h2⟩:=h;rw[AV.eqs_ok h1,h2])
  |(obtain⟨⟨⟨⟨h1,h2⟩,h3⟩,h4⟩,h5⟩:=h;rw[h1,h2,h3,AV.eqC_ok h4,h5])
  |(obtain⟨h1,h2⟩:=h;rw[h1,AV.eqC_ok h2])
  |(obtain⟨⟨h1,h2⟩,h3⟩:=h;rw[h1,h2,AV.eqC_ok h3])
  |(obtain⟨⟨⟨⟨h1,h2⟩,h3⟩,h4⟩,h5⟩:=h;rw[h1,h2,h3,h4,h5])
  |(obtain⟨⟨h1,h2⟩,h3⟩:=h;rw[h1,h2,h3])
  |(obtain⟨h1,h2⟩:=h;rw[h1,h2])
  |cases h
def LK.eqB:LK→LK→Bool
 | .op k xs,.op k' xs'=>OpK.eqB k k'&&Src.eqsB xs xs'
 | .pick c a b,.pick c' a' b'=>decide (c=c')&&Src.eqB a a'&&Src.eqB b b'
 |_,_=>false
theorem LK.eqB_ok {a b:LK} (h:LK.eqB a b=true):a=b:=by
 cases a<;>cases b<;>simp only[LK.eqB,bAt,dTe,bFt]at h
 .rw[OpK.eqB_ok h.1,Src.eqsB_ok h.2]
 .rw[h.1.1,Src.eqB_ok h.1.2,Src.eqB_ok h.2]
def LI.eqB (a b:LI):Bool:=decide (a.dst=b.dst)&&LK.eqB a.k b.k&&decide (a.g=b.g)
theorem LI.eqB_ok {a b:LI} (h:LI.eqB a b=true):a=b:=by
 obtain⟨d,k,g⟩:=a
 obtain⟨d',k',g'⟩:=b
 simp only[LI.eqB,bAt,dTe]at h
 rw[h.1.1,LK.eqB_ok h.1.2,h.2]
def lisB (P:Program) (N:Nat) (ops:Array Oper):List Oper→List LI→Bool
 | [],[]=>true
 |o::r,i::l=>(match zjE P N ops o with|some j=>LI.eqB j i.erase|none=>false)&&lisB P N ops r l
 |_,_=>false
theorem znz {P:Program} {N:Nat} {ops:Array Oper}:∀{r:List Oper} {l:List LI},lisB P N ops r l=true→zcr P N ops r=some (l.map LI.erase)
 | [],[],_=>rfl
 |o::r,i::l,h=>by
  simp only[lisB,bAt]at h
  obtain⟨h1,h2⟩:=h
  split at h1
  .rename_i j hj
   simp only[zcr,hj,znz h2,LI.eqB_ok h1,List.map_cons]
  .cases h1
 | [],_::_,h=>by simp[lisB]at h
 |_::_,[],h=>by simp[lisB]at h
def zqo (o:Operand) (s:Src):Bool:=match zeI o with|some t=>Src.eqB t s|none=>false
theorem zkF {o:Operand} {s:Src} (h:zqo o s=true):zeI o=some s:=by
 unfold zqo at h
 split at h
 .rename_i t ht;rw[ht,Src.eqB_ok h]
 .cases h
def zab (P:Program) (N:Nat):LC→Code→Bool
 | .any,_=>true
 | .hol _ a,c=>zab P N a c
 | .skip,.skip=>true
 | .skip,.label _=>true
 | .scp b,.scope b'=>zab P N b b'
 | .ret,.ret=>true
 | .exit i,.exit j=>decide (i=j)
 | .reg d inn out l,.region _ ops d'=>d==d'&&lisB P N ops ops.toList (zcQ none l)&&zo6 inn l&&(!d||zr4 ops (zcQ none l))
 | .seq a b,.seq a' b'=>zab P N a a'&&zab P N b b'
 | .cond c a b,.cond c' a' b'=>zqo c' c&&zab P N a a'&&zab P N b b'
 | .block id _ b,.block id' b'=>decide (id=id')&&zab P N b b'
 | .loop _ b,.loop b'=>zab P N b b'
 | .rng f ps _ ac bd,.rangeFunc f' ps' ac' bd'=>zqo f' f&&decide (ps'.toList=ps)&&(ps.all fun p=>decide (p<N))&&zaC ac&&zaC bd&&zab P N ac ac'&&zab P N bd bd'
 |_,_=>false
theorem zlC {P:Program} {N:Nat}:∀{lc:LC} {c:Code},zab P N lc c=true→zar P N lc c:=by
 intro lc
 induction lc with
 |any=>intro c h;cases c<;>trivial
 |hol ts a ih=>intro c h;simp only[zab]at h;simp only[zar];exact ih h
 |skip=>intro c h;cases c<;>simp only[zab,bFt]at h<;>trivial
 |ret=>intro c h;cases c<;>simp only[zab,bFt]at h;trivial
 |exit i=>intro c h;cases c<;>simp only[zab,bFt,dTe]at h;exact h
 |reg d inn out l=>
  intro c h
  cases c<;>simp only[zab,bFt,bAt,beq_iff_eq,Bool.or_eq_true,Bool.not_eq_true']at h
  obtain⟨⟨⟨h1,h2⟩,h3⟩,h4⟩:=h
  exact⟨h1,znz h2,h3,fun hd=>h4.elim (fun h5=>absurd (hd.symm.trans h5) (by decide)) id⟩
 |seq a b iha ihb=>
  intro c h
  cases c<;>simp only[zab,bFt,bAt]at h
  exact⟨iha h.1,ihb h.2⟩
 |cond x a b iha ihb=>
  intro c h
  cases c<;>simp only[zab,bFt,bAt]at h
  exact⟨zkF h.1.1,iha h.1.2,ihb h.2⟩
 |block id live b ih=>
  intro c h
  cases c<;>simp only[zab,bFt,bAt,dTe]at h
  exact⟨h.1,ih h.2⟩
 |loop live b ih=>
  intro c h
  cases c<;>simp only[zab,bFt]at h
  exact ih h
 |scp b ih=>intro c h;cases c<;>simp only[zab,bFt]at h;exact ih h
 |rng f ps inn ac bd iha ihb=>
  intro c h
  cases c<;>simp only[zab,bFt,bAt,dTe]at h
  obtain⟨⟨⟨⟨⟨⟨h1,h2⟩,h3⟩,h4⟩,h5⟩,h6⟩,h7⟩:=h
  exact⟨zkF h1,by rw[←h2],h3,h4,h5,iha h6,ihb h7⟩
def resB (P:Program):RV→ResultVar→Bool
 | .tmp t,.tmp t'=>decide (t=t')
 | .cell t g n,.cell a ty=>decide (t=a)&&decide (aggT P ty=some g)&&decide (szT P ty=some n)
 |_,_=>false
def zlI (P:Program):List RV→List ResultVar→Bool
 | [],[]=>true
 |a::l,b::m=>resB P a b&&zlI P l m
 |_,_=>false
theorem zkx {P:Program}:∀{l:List RV} {m:List ResultVar},zlI P l m=true→zfl P l m
 | [],[],_=>trivial
 |a::l,b::m,h=>by
  simp only[zlI,bAt]at h
  refine⟨?_,zkx h.2⟩
  have h1:=h.1
  cases a<;>cases b<;>simp only[resB,bFt,dTe,bAt]at h1
  .exact h1
  .exact⟨h1.1.1,h1.1.2,h1.2⟩
 | [],_::_,h=>by simp[zlI]at h
 |_::_,[],h=>by simp[zlI]at h
def zh (P:Program) (f:FuncId) (fi:FI):Bool:=
 match P.funcs[f]? with
 |some fn=>match fn.body with
  |some code=>(fn.name== "runtime.NumGoroutine")==false&&decide (fn.ntmps=fi.ntmps)&&decide (fi.np≤fi.ntmps)&&zab P fi.ntmps fi.lc code&&zlI P fi.res fn.results.toList
  |none=>false
 |none=>false
theorem zrf {P:Program} {f:FuncId} {fi:FI} (h:zh P f fi=true):FnOK P f fi:=by
 unfold zh at h
 split at h
 .rename_i fn h1
  split at h
  .rename_i code h2
   simp only[bAt,dTe,beq_iff_eq]at h
   obtain⟨⟨⟨⟨a,b⟩,c⟩,d⟩,e⟩:=h
   exact⟨fn,code,h1,h2,a,b,c,zlC d,zkx e⟩
  .cases h
 .cases h
def look (l:List (Nat×FI)) (f:FuncId):Option FI:=match l with| []=>none|p::r=>if f=p.1 then some p.2 else look r f
def zpP (P:Program):List (Nat×FI)→Prop| []=>True|p::r=>zh P p.1 p.2=true∧zpP P r
theorem zpO (P:Program):zpP P []↔True:=Iff.rfl
theorem zmt (P:Program) (f:Nat) (fi:FI) (r:List (Nat×FI)):zpP P ((f,fi)::r)↔zh P f fi=true∧zpP P r:=Iff.rfl
theorem znx {P:Program}:∀{l:List (Nat×FI)},zpP P l→∀f fi,look l f=some fi→FnOK P f fi
 | [],_,f,fi,h=>by simp[look]at h
 |p::r,hl,f,fi,h=>by
  unfold look at h
  split at h
  .rename_i hf
   cases h
   rw[hf];exact zrf hl.1
  .exact znx hl.2 f fi h
abbrev oo (d:Nat) (k:OpK) (l:List Src):SI:= .op (some d) k l
abbrev kk (n:Int):Src:= .c (.int .i64 n)
abbrev mm (d s:Nat):SI:= .op (some d) .mv [.t s]
abbrev ll (d s:Nat):SI:= .op (some d) (.load false false 1) [.t s]
abbrev ff (d n s:Nat):SI:= .op (some d) (.fld n) [.t s]
abbrev sr (a b:List Nat) (l:List SI) (x:LC):LC:= .seq (.reg false a b l) x
abbrev st (a b:List Nat) (l:List SI) (x:LC):LC:= .seq (.reg true a b l) x
abbrev L1:OpK:= .load false false 1
abbrev Lt (n:Nat):OpK:= .load false true n
abbrev Be:OpK:= .bin .eql
abbrev Ba:OpK:= .bin .add
abbrev Bl:OpK:= .bin .lss
abbrev Bn:OpK:= .bin .neq
abbrev Ln:OpK:= .len false
abbrev oA (d:Nat) (k:OpK) (a:Nat):SI:= .op (some d) k [.t a]
abbrev oB (d:Nat) (k:OpK) (a b:Nat):SI:= .op (some d) k [.t a,.t b]
abbrev oC (d:Nat) (k:OpK) (a:Nat) (n:Int):SI:= .op (some d) k [.t a,.c (.int .i64 n)]
abbrev mK (d:Nat) (n:Int):SI:= .op (some d) .mv [.c (.int .i64 n)]
abbrev mB (d:Nat) (b:Bool):SI:= .op (some d) .mv [.c (.bool b)]
abbrev sO (d c:Nat) (l:List SI) (e:Src):SI:= .sel d c [] (.c (.bool true)) l e
abbrev sA (d c:Nat) (l:List SI) (e:Nat):SI:= .sel d c l (.t e) [] (.c (.bool false))
abbrev cD (t:Nat) (a b:LC):LC:= .cond (.t t) a b
abbrev sT (n a b:Nat):SI:= .op none (.store n) [.t a,.t b]
abbrev nL:AV:= .isl (some true) 0 []
abbrev iZ:AV:= .int .i64 0
abbrev iA (n:Nat):OpK:= .idxa false n
abbrev Bg:OpK:= .bin .gtr
abbrev pC (f:FuncId):OpK:= .pcall f
abbrev ELq (a b:LC):Prop:=∀(R:Rec) (F:Fr) (H:Heap),evC R a F H=evC R b F H
end Go.Proofs.YtbddckhdbnmamaaGreat
