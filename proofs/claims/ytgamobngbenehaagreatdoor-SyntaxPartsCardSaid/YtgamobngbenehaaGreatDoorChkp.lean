/-
  That light code stands for the program's, checked by evaluation (conditions: none).
-/
import Derived.KernelRfl
import Derived.Test.YtgamobngbenehaaGreatDoorOmegap
namespace Go.Proofs.YtgamobngbenehaaGreatDoor
open Go Go.RowKit
set_option linter.unusedVariables false
set_option linter.unusedSimpArgs false
def AV.eq1:AV→AV→Bool
 | .bad,.bad=>true
 | .und,.und=>true
 | .bool a,.bool b=>a==b
 | .int k a,.int k' b=>decide (k=k')&&decide (a=b)
 | .str a,.str b=>decide (a=b)
 | .nilp,.nilp=>true
 | .nilf,.nilf=>true
 | .nili,.nili=>true
 | .nilm,.nilm=>true
 | .unk k,.unk k'=>decide (k=k')
 | .isl (some true) 0 [],.isl (some true) 0 []=>true
 | .clo f [] [],.clo g [] []=>decide (f=g)
 |_,_=>false
theorem AV.eq1_ok {a b:AV} (h:AV.eq1 a b=true):a=b:=by
 unfold AV.eq1 at h
 split at h<;>simp_all
def AV.eqs:List AV→List AV→Bool
 | [],[]=>true
 |a::l,b::m=>AV.eq1 a b&&AV.eqs l m
 |_,_=>false
theorem AV.eqs_ok:∀{l m:List AV},AV.eqs l m=true→l=m
 | [],[],_=>rfl
 |a::l,b::m,h=>by
  simp only[AV.eqs,Bool.and_eq_true]at h
  rw[AV.eq1_ok h.1,AV.eqs_ok h.2]
 | [],_::_,h=>by simp[AV.eqs]at h
 |_::_,[],h=>by simp[AV.eqs]at h
def AV.eqC:AV→AV→Bool
 | .agg a,.agg b=>AV.eqs a b
 | .eptr a,.eptr b=>AV.eqs a b
 |a,b=>AV.eq1 a b
theorem AV.eqC_ok {a b:AV} (h:AV.eqC a b=true):a=b:=by
 unfold AV.eqC at h
 split at h
 .rw[AV.eqs_ok h]
 .rw[AV.eqs_ok h]
 .exact AV.eq1_ok h
def Src.eqB:Src→Src→Bool
 | .t i,.t j=>decide (i=j)
 | .c v,.c w=>AV.eqC v w
 |_,_=>false
theorem Src.eqB_ok {a b:Src} (h:Src.eqB a b=true):a=b:=by
 cases a<;>cases b<;>simp only[Src.eqB,decide_eq_true_eq,Bool.false_eq_true]at h
 .rw[h]
 .rw[AV.eqC_ok h]
def Src.eqsB:List Src→List Src→Bool
 | [],[]=>true
 |a::l,b::m=>Src.eqB a b&&Src.eqsB l m
 |_,_=>false
theorem Src.eqsB_ok:∀{l m:List Src},Src.eqsB l m=true→l=m
 | [],[],_=>rfl
 |a::l,b::m,h=>by
  simp only[Src.eqsB,Bool.and_eq_true]at h
  rw[Src.eqB_ok h.1,Src.eqsB_ok h.2]
 | [],_::_,h=>by simp[Src.eqsB]at h
 |_::_,[],h=>by simp[Src.eqsB]at h
def OpK.eqB:OpK→OpK→Bool
 | .mv,.mv=>true
 | .bin a,.bin b=>decide (a=b)
 | .eqs n a,.eqs m b=>n==m&&decide (a=b)
 | .eqn p n,.eqn q m=>p==q&&n==m
 | .eqb n,.eqb m=>n==m
 | .not,.not=>true
 | .neg,.neg=>true
 | .conv a,.conv b=>decide (a=b)
 | .load i a n,.load j b m=>i==j&&a==b&&decide (n=m)
 | .fld a,.fld b=>decide (a=b)
 | .fldv a n o,.fldv b m p=>a==b&&decide (n=m)&&decide (o=p)
 | .idxa i a,.idxa j b=>i==j&&decide (a=b)
 | .idxs,.idxs=>true
 | .len a,.len b=>a==b
 | .ext a,.ext b=>decide (a=b)
 | .nilchk,.nilchk=>true
 | .bld z p,.bld y q=>AV.eqs z y&&decide (p=q)
 | .clo f n,.clo g m=>decide (f=g)&&decide (n=m)
 | .slc i a n l h,.slc j b m l' h'=>i==j&&a==b&&decide (n=m)&&l==l'&&h==h'
 | .call f,.call g=>decide (f=g)
 | .pcall f,.pcall g=>decide (f=g)
 | .pubcall f,.pubcall g=>decide (f=g)
 | .fcall f,.fcall g=>decide (f=g)
 | .callv,.callv=>true
 | .box n,.box m=>decide (n=m)
 | .store n,.store m=>decide (n=m)
 | .storeA n,.storeA m=>decide (n=m)
 | .appA n,.appA m=>decide (n=m)
 | .bsl i n l z p,.bsl j m l' y q=>i==j&&decide (n=m)&&decide (l=l')&&AV.eqC z y&&decide (p=q)
 | .mksl n z,.mksl m y=>decide (n=m)&&AV.eqC z y
 | .appz n z,.appz m y=>decide (n=m)&&AV.eqC z y
 | .app n,.app m=>decide (n=m)
 | .mn,.mn=>true
 | .mx,.mx=>true
 | .idxp a b,.idxp c d=>decide (a=c)&&decide (b=d)
 | .boxT a b,.boxT c d=>decide (a=c)&&decide (b=d)
 | .loadB a n,.loadB b m=>a==b&&decide (n=m)
 | .storeB n,.storeB m=>decide (n=m)
 | .apps,.apps=>true
 | .appB,.appB=>true
 | .boxH t s,.boxH t' s'=>decide (t=t')&&decide (s=s')
 | .appH t s,.appH t' s'=>decide (t=t')&&decide (s=s')
 | .cap0,.cap0=>true
 | .emp,.emp=>true
 | .lenm,.lenm=>true
 | .rngs,.rngs=>true
 | .nxt,.nxt=>true
 | .rngm,.rngm=>true
 | .ent,.ent=>true
 | .eqi n,.eqi m=>n==m
 | .callA f n,.callA g m=>decide (f=g)&&decide (n=m)
 | .mkslH t s z,.mkslH t' s' z'=>decide (t=t')&&decide (s=s')&&AV.eqC z z'
 | .clr n z,.clr m y=>decide (n=m)&&AV.eqC z y
 | .mkmap,.mkmap=>true
 | .s2b,.s2b=>true
 | .b2s,.b2s=>true
 | .mput n,.mput m=>decide (n=m)
 | .mget n o z,.mget m p y=>decide (n=m)&&o==p&&AV.eqC z y
 |_,_=>false
theorem OpK.eqB_ok {a b:OpK} (h:OpK.eqB a b=true):a=b:=by
 unfold OpK.eqB at h
 split at h<;>simp only[Bool.and_eq_true,decide_eq_true_eq,beq_iff_eq,Bool.false_eq_true]at h
 all_goals first
  |rfl
  |(subst h;rfl)
  |(obtain⟨h1,h2⟩:=h;rw[AV.eqs_ok h1,h2])
  |(obtain⟨⟨⟨⟨h1,h2⟩,h3⟩,h4⟩,h5⟩:=h;rw[h1,h2,h3,AV.eqC_ok h4,h5])
  |(obtain⟨h1,h2⟩:=h;rw[h1,AV.eqC_ok h2])
  |(obtain⟨⟨h1,h2⟩,h3⟩:=h;rw[h1,h2,AV.eqC_ok h3])
  |(obtain⟨⟨⟨⟨h1,h2⟩,h3⟩,h4⟩,h5⟩:=h;rw[h1,h2,h3,h4,h5])
  |(obtain⟨⟨h1,h2⟩,h3⟩:=h;rw[h1,h2,h3])
  |(obtain⟨h1,h2⟩:=h;rw[h1,h2])
  |cases h
def LK.eqB:LK→LK→Bool
 | .op k xs,.op k' xs'=>OpK.eqB k k'&&Src.eqsB xs xs'
 | .pick c a b,.pick c' a' b'=>decide (c=c')&&Src.eqB a a'&&Src.eqB b b'
 |_,_=>false
theorem LK.eqB_ok {a b:LK} (h:LK.eqB a b=true):a=b:=by
 cases a<;>cases b<;>simp only[LK.eqB,Bool.and_eq_true,decide_eq_true_eq,Bool.false_eq_true]at h
 .rw[OpK.eqB_ok h.1,Src.eqsB_ok h.2]
 .rw[h.1.1,Src.eqB_ok h.1.2,Src.eqB_ok h.2]
def LI.eqB (a b:LI):Bool:=decide (a.dst=b.dst)&&LK.eqB a.k b.k&&decide (a.g=b.g)
theorem LI.eqB_ok {a b:LI} (h:LI.eqB a b=true):a=b:=by
 obtain⟨d,k,g⟩:=a
 obtain⟨d',k',g'⟩:=b
 simp only[LI.eqB,Bool.and_eq_true,decide_eq_true_eq]at h
 rw[h.1.1,LK.eqB_ok h.1.2,h.2]
def lisB (P:Program) (N:Nat) (ops:Array Oper):List Oper→List LI→Bool
 | [],[]=>true
 |o::r,i::l=>(match zhi P N ops o with|some j=>LI.eqB j i.erase|none=>false)&&lisB P N ops r l
 |_,_=>false
theorem zj6 {P:Program} {N:Nat} {ops:Array Oper}:∀{r:List Oper} {l:List LI},lisB P N ops r l=true→zbV P N ops r=some (l.map LI.erase)
 | [],[],_=>rfl
 |o::r,i::l,h=>by
  simp only[lisB,Bool.and_eq_true]at h
  obtain⟨h1,h2⟩:=h
  split at h1
  .rename_i j hj
   simp only[zbV,hj,zj6 h2,LI.eqB_ok h1,List.map_cons]
  .cases h1
 | [],_::_,h=>by simp[lisB]at h
 |_::_,[],h=>by simp[lisB]at h
def ziG (o:Operand) (s:Src):Bool:=match zcH o with|some t=>Src.eqB t s|none=>false
theorem zdL {o:Operand} {s:Src} (h:ziG o s=true):zcH o=some s:=by
 unfold ziG at h
 split at h
 .rename_i t ht;rw[ht,Src.eqB_ok h]
 .cases h
def zK (P:Program) (N:Nat):LC→Code→Bool
 | .any,_=>true
 | .hol _ a,c=>zK P N a c
 | .skip,.skip=>true
 | .skip,.label _=>true
 | .scp b,.scope b'=>zK P N b b'
 | .ret,.ret=>true
 | .exit i,.exit j=>decide (i=j)
 | .reg d inn out l,.region _ ops d'=>d==d'&&lisB P N ops ops.toList (zb8 none l)&&zk6 inn l&&(!d||zmQ ops (zb8 none l))
 | .seq a b,.seq a' b'=>zK P N a a'&&zK P N b b'
 | .cond c a b,.cond c' a' b'=>ziG c' c&&zK P N a a'&&zK P N b b'
 | .block id _ b,.block id' b'=>decide (id=id')&&zK P N b b'
 | .loop _ b,.loop b'=>zK P N b b'
 | .mloop it r ok bk live b,.loop (.seq (.region _ ops false) (.seq (.cond (.tmp ok') .skip (.exit bk')) b'))=>zeT it r ok ops&&decide (ok'=ok)&&decide (bk'=bk)&&decide (r<N)&&decide (ok<N)&&decide (r≠ok)&&live.contains it&& !live.contains r&& !live.contains ok&&zK P N b b'
 | .rng f ps _ ac bd,.rangeFunc f' ps' ac' bd'=>ziG f' f&&decide (ps'.toList=ps)&&(ps.all fun p=>decide (p<N))&&z8 ac&&z8 bd&&zK P N ac ac'&&zK P N bd bd'
 |_,_=>false
theorem z7 {P:Program} {N:Nat}:∀{lc:LC} {c:Code},zK P N lc c=true→zJ P N lc c:=by
 intro lc
 induction lc with
 |any=>intro c h;cases c<;>trivial
 |hol ts a ih=>intro c h;simp only[zK]at h;simp only[zJ];exact ih h
 |skip=>intro c h;cases c<;>simp only[zK,Bool.false_eq_true]at h<;>trivial
 |ret=>intro c h;cases c<;>simp only[zK,Bool.false_eq_true]at h;trivial
 |exit i=>intro c h;cases c<;>simp only[zK,Bool.false_eq_true,decide_eq_true_eq]at h;exact h
 |reg d inn out l=>
  intro c h
  cases c<;>simp only[zK,Bool.false_eq_true,Bool.and_eq_true,beq_iff_eq,Bool.or_eq_true,Bool.not_eq_true']at h
  obtain⟨⟨⟨h1,h2⟩,h3⟩,h4⟩:=h
  exact⟨h1,zj6 h2,h3,fun hd=>h4.elim (fun h5=>absurd (hd.symm.trans h5) (by decide)) id⟩
 |seq a b iha ihb=>
  intro c h
  cases c<;>simp only[zK,Bool.false_eq_true,Bool.and_eq_true]at h
  exact⟨iha h.1,ihb h.2⟩
 |cond x a b iha ihb=>
  intro c h
  cases c<;>simp only[zK,Bool.false_eq_true,Bool.and_eq_true]at h
  exact⟨zdL h.1.1,iha h.1.2,ihb h.2⟩
 |block id live b ih=>
  intro c h
  cases c<;>simp only[zK,Bool.false_eq_true,Bool.and_eq_true,decide_eq_true_eq]at h
  exact⟨h.1,ih h.2⟩
 |loop live b ih=>
  intro c h
  cases c<;>simp only[zK,Bool.false_eq_true]at h
  exact ih h
 |scp b ih=>intro c h;cases c<;>simp only[zK,Bool.false_eq_true]at h;exact ih h
 |body b ih=>intro c h;cases c<;>exact absurd (show false=true from h) (by simp)
 |dfr t f caps inn r d dc rest ih1 ih2=>intro c h;cases c<;>cases (show false=true from h)
 |dcl t s f xs inn dc rest ih1 ih2=>intro c h;cases c<;>cases (show false=true from h)
 |dcnd x a b ih1 ih2=>intro c h;cases c<;>cases (show false=true from h)
 |asc a ih=>intro c h;cases c<;>cases (show false=true from h)
 |mloop it r ok bk live b ih=>
  intro c h
  cases c with
  |loop cl=>cases cl with
   |seq c1 c2=>cases c1 with
    |region rid ops dr=>cases dr with
     |false=>cases c2 with
      |seq c3 cb=>cases c3 with
       |cond co ca cbb=>cases co with
        |tmp ok'=>cases ca with
         |skip=>cases cbb with
          |exit bk'=>
           simp only[zK,Bool.and_eq_true,decide_eq_true_eq,Bool.not_eq_true']at h
           obtain⟨⟨⟨⟨⟨⟨⟨⟨⟨h1,h2⟩,h3⟩,h4⟩,h5⟩,h6⟩,h7⟩,h8⟩,h9⟩,h10⟩:=h
           exact⟨h1,h2,h3,⟨h4,h5,h6,by simpa using h7,by simpa using h8,by simpa using h9⟩,ih h10⟩
          |_=>cases (show false=true from h)
         |_=>cases (show false=true from h)
        |_=>cases (show false=true from h)
       |_=>cases (show false=true from h)
      |_=>cases (show false=true from h)
     |true=>cases (show false=true from h)
    |_=>cases (show false=true from h)
   |_=>cases (show false=true from h)
  |_=>cases (show false=true from h)
 |rng f ps inn ac bd iha ihb=>
  intro c h
  cases c<;>simp only[zK,Bool.false_eq_true,Bool.and_eq_true,decide_eq_true_eq]at h
  obtain⟨⟨⟨⟨⟨⟨h1,h2⟩,h3⟩,h4⟩,h5⟩,h6⟩,h7⟩:=h
  exact⟨zdL h1,by rw[←h2],h3,h4,h5,iha h6,ihb h7⟩
def zk0 (P:Program) (f:FuncId) (ncap r d:Nat) (dc:LC):Bool:=match P.funcs[f]? with
 |some fn=>match fn.body with
  |some (.seq (.region _ dops false) cr)=>(fn.name== "runtime.NumGoroutine")==false&&zfq r d dops&&decide (r<fn.ntmps)&&decide (d<fn.ntmps)&&decide (ncap≤fn.ntmps)&&z8 dc&&zK P fn.ntmps dc cr&&decide (fn.results.toList.length=0)
  |_=>false
 |none=>false
theorem zkZ {P:Program} {f:FuncId} {ncap r d:Nat} {dc:LC} (h:zk0 P f ncap r d dc=true):znb P f ncap r d dc:=by
 unfold zk0 at h
 split at h
 .rename_i fn h1
  split at h
  .rename_i rid dops cr h2
   simp only[Bool.and_eq_true,decide_eq_true_eq,beq_iff_eq]at h
   obtain⟨⟨⟨⟨⟨⟨⟨a1,a2⟩,a3⟩,a4⟩,a5⟩,a6⟩,a7⟩,a8⟩:=h
   exact⟨fn,rid,dops,cr,h1,h2,a1,a2,a3,a4,a5,a6,z7 a7,by apply Array.ext';simpa using List.length_eq_zero_iff.1 a8⟩
  .cases h
 .cases h
def zeO:List Operand→List Src→Bool
 | [],[]=>true
 |o::r,s::q=>ziG o s&&zeO r q
 |_,_=>false
theorem zgb:∀{l:List Operand} {xs:List Src},zeO l xs=true→srcs l=some xs
 | [],[],_=>rfl
 |o::r,s::q,h=>by
  simp only[zeO,Bool.and_eq_true]at h
  simp only[srcs,zdL h.1,zgb h.2]
 | [],_::_,h=>by simp[zeO]at h
 |_::_,[],h=>by simp[zeO]at h
def zhx (t s:Nat) (f:FuncId) (xs:List Src) (ops:Array Oper):Bool:=match ops.toList with
 | [o0,o1]=>(match o0.op with| .move (.tmp i)=>decide (i=s)|_=>false)&&decide (o0.dst=some t)&&decide (o0.guard=none)&&
   (match o1.op with| .defer c=>(match c.callee with| .value (.func g)=>decide (g=f)|_=>false)&&zeO c.args.toList xs|_=>false)&&decide (o1.dst=none)&&decide (o1.guard=none)
 |_=>false
theorem zi2 {t s:Nat} {f:FuncId} {xs:List Src} {ops:Array Oper} (h:zhx t s f xs ops=true):zlA t s f xs ops:=by
 unfold zhx at h
 split at h
 .rename_i o0 o1 ho
  simp only[Bool.and_eq_true,decide_eq_true_eq]at h
  obtain⟨⟨⟨⟨⟨h1,h2⟩,h3⟩,h4⟩,h5⟩,h6⟩:=h
  split at h1
  .rename_i i hop
   split at h4
   .rename_i c hop1
    rw[Bool.and_eq_true]at h4
    obtain⟨h7,h8⟩:=h4
    split at h7
    .rename_i g hc
     have e1:=of_decide_eq_true h1
     have e2:=of_decide_eq_true h7
     subst e1;subst e2
     exact⟨o0,o1,c,by apply Array.ext';simpa using ho,hop,h2,h3,hop1,hc,zgb h8,h5,h6⟩
    .cases h7
   .cases h4
  .cases h1
 .cases h
def zfQ:List ResultVar→Option (List Nat)
 | []=>some []
 |r::l=>match r,zfQ l with| .tmp t,some ts=>some (t::ts)|_,_=>none
theorem zfP {P:Program}:∀{l:List ResultVar} {ts:List Nat},zfQ l=some ts→zcJ P (ts.map RV.tmp) l
 | [],ts,h=>by simp only[zfQ,Option.some.injEq]at h;subst h;trivial
 |r::l,ts,h=>by
  simp only[zfQ]at h
  split at h
  .rename_i t ts' h2
   cases h
   exact⟨rfl,zfP h2⟩
  .cases h
def zk3 (P:Program) (f:FuncId) (n:Nat) (dc:LC):Bool:=match P.funcs[f]? with
 |some fn=>match fn.body with
  |some code=>(fn.name== "runtime.NumGoroutine")==false&&decide (n≤fn.ntmps)&&z8 dc&&zK P fn.ntmps dc code&&(zfQ fn.results.toList).isSome
  |_=>false
 |none=>false
theorem zk2 {P:Program} {f:FuncId} {n:Nat} {dc:LC} (h:zk3 P f n dc=true):znc P f n dc:=by
 unfold zk3 at h
 split at h
 .rename_i fn h1
  split at h
  .rename_i code h2
   simp only[Bool.and_eq_true,decide_eq_true_eq,beq_iff_eq]at h
   obtain⟨⟨⟨⟨a1,a2⟩,a3⟩,a4⟩,a5⟩:=h
   obtain⟨ts,a6⟩:=Option.isSome_iff_exists.1 a5
   exact⟨fn,code,ts,h1,h2,a1,a2,a3,z7 a4,zfP a6⟩
  .cases h
 .cases h
def zaz (P:Program) (N:Nat):LC→List Code→Bool
 | .asc a,.seq x y::r=>zaz P N a (x::y::r)
 | .dfr t f caps _ r d dc rest,.region _ ops false::cs=>zeb t f caps ops&&decide (t<N)&&zk0 P f caps.length r d dc&&zaz P N rest cs
 | .dcl t s f xs _ dc rest,.region _ ops false::cs=>zhx t s f xs ops&&decide (t<N)&&zk3 P f xs.length dc&&zaz P N rest cs
 | .dcnd c a b,.cond c' ca cb::cs=>ziG c' c&&zaz P N a (ca::cs)&&zaz P N b (cb::cs)
 | .seq a b,c::c'::cs=>zK P N a c&&zaz P N b (c'::cs)
 | .skip,[]=>true
 |lc,[c]=>zK P N lc c
 |_,_=>false
theorem zg4 {P:Program} {N:Nat}:∀{lc:LC} {cs:List Code},zaz P N lc cs=true→zad P N lc cs:=by
 intro lc
 induction lc with
 |seq a b iha ihb=>
  intro cs h
  cases cs with
  |nil=>cases (show false=true from h)
  |cons c cr=>cases cr with
   |nil=>exact z7 h
   |cons c' cr=>
    simp only[zaz,Bool.and_eq_true]at h
    exact⟨z7 h.1,ihb h.2⟩
 |asc a ih=>
  intro cs h
  cases cs with
  |nil=>cases (show false=true from h)
  |cons c cr=>cases c with
   |seq x y=>exact ih h
   |_=>cases cr with
    |nil=>exact z7 h
    |cons _ _=>cases (show false=true from h)
 |dfr t f caps inn r d dc rest ih1 ih2=>
  intro cs h
  cases cs with
  |nil=>cases (show false=true from h)
  |cons c cr=>cases c with
   |region rid ops dr=>cases dr with
    |false=>
     simp only[zaz,Bool.and_eq_true,decide_eq_true_eq]at h
     exact⟨h.1.1.1,h.1.1.2,zkZ h.1.2,ih2 h.2⟩
    |true=>cases cr with
     |nil=>exact z7 h
     |cons _ _=>cases (show false=true from h)
   |_=>cases cr with
    |nil=>exact z7 h
    |cons _ _=>cases (show false=true from h)
 |dcl t s f xs inn dc rest ih1 ih2=>
  intro cs h
  cases cs with
  |nil=>cases (show false=true from h)
  |cons c cr=>cases c with
   |region rid ops dr=>cases dr with
    |false=>
     simp only[zaz,Bool.and_eq_true,decide_eq_true_eq]at h
     exact⟨zi2 h.1.1.1,h.1.1.2,zk2 h.1.2,ih2 h.2⟩
    |true=>cases cr with
     |nil=>exact z7 h
     |cons _ _=>cases (show false=true from h)
   |_=>cases cr with
    |nil=>exact z7 h
    |cons _ _=>cases (show false=true from h)
 |dcnd x a b ih1 ih2=>
  intro cs h
  cases cs with
  |nil=>cases (show false=true from h)
  |cons c cr=>cases c with
   |cond c' ca cb=>
    simp only[zaz,Bool.and_eq_true]at h
    exact⟨zdL h.1.1,ih1 h.1.2,ih2 h.2⟩
   |_=>cases cr with
    |nil=>exact z7 h
    |cons _ _=>cases (show false=true from h)
 |skip=>
  intro cs h
  cases cs with
  |nil=>trivial
  |cons c cr=>cases cr with
   |nil=>exact z7 h
   |cons _ _=>cases (show false=true from h)
 |_=>
  intro cs h
  cases cs with
  |nil=>cases (show false=true from h)
  |cons c cr=>cases cr with
   |nil=>exact z7 h
   |cons _ _=>cases (show false=true from h)
def zhJ (P:Program) (N:Nat) (lc:LC) (c:Code):Bool:=match lc with| .body b=>zaz P N b [c]|lc=>zK P N lc c
theorem zg3 {P:Program} {N:Nat} {lc:LC} {c:Code} (h:zhJ P N lc c=true):zhF P N lc c:=by
 cases lc with
 |body b=>exact zg4 h
 |_=>exact z7 h
def resB (P:Program):RV→ResultVar→Bool
 | .tmp t,.tmp t'=>decide (t=t')
 | .cell t g n,.cell a ty=>decide (t=a)&&decide (aggT P ty=some g)&&decide (szT P ty=some n)
 |_,_=>false
def ziA (P:Program):List RV→List ResultVar→Bool
 | [],[]=>true
 |a::l,b::m=>resB P a b&&ziA P l m
 |_,_=>false
theorem zhR {P:Program}:∀{l:List RV} {m:List ResultVar},ziA P l m=true→zcJ P l m
 | [],[],_=>trivial
 |a::l,b::m,h=>by
  simp only[ziA,Bool.and_eq_true]at h
  refine⟨?_,zhR h.2⟩
  have h1:=h.1
  cases a<;>cases b<;>simp only[resB,Bool.false_eq_true,decide_eq_true_eq,Bool.and_eq_true]at h1
  .exact h1
  .exact⟨h1.1.1,h1.1.2,h1.2⟩
 | [],_::_,h=>by simp[ziA]at h
 |_::_,[],h=>by simp[ziA]at h
def zl (P:Program) (f:FuncId) (fi:FI):Bool:=
 match P.funcs[f]? with
 |some fn=>match fn.body with
  |some code=>(fn.name== "runtime.NumGoroutine")==false&&decide (fn.ntmps=fi.ntmps)&&decide (fi.np≤fi.ntmps)&&zhJ P fi.ntmps fi.lc code&&ziA P fi.res fn.results.toList
  |none=>false
 |none=>false
theorem zmr {P:Program} {f:FuncId} {fi:FI} (h:zl P f fi=true):FnOK P f fi:=by
 unfold zl at h
 split at h
 .rename_i fn h1
  split at h
  .rename_i code h2
   simp only[Bool.and_eq_true,decide_eq_true_eq,beq_iff_eq]at h
   obtain⟨⟨⟨⟨a,b⟩,c⟩,d⟩,e⟩:=h
   exact⟨fn,code,h1,h2,a,b,c,zg3 d,zhR e⟩
  .cases h
 .cases h
def look (l:List (Nat×FI)) (f:FuncId):Option FI:=match l with| []=>none|p::r=>if f=p.1 then some p.2 else look r f
def zlx (P:Program):List (Nat×FI)→Prop| []=>True|p::r=>zl P p.1 p.2=true∧zlx P r
theorem zlw (P:Program):zlx P []↔True:=Iff.rfl
theorem zjf (P:Program) (f:Nat) (fi:FI) (r:List (Nat×FI)):zlx P ((f,fi)::r)↔zl P f fi=true∧zlx P r:=Iff.rfl
theorem zj4 {P:Program}:∀{l:List (Nat×FI)},zlx P l→∀f fi,look l f=some fi→FnOK P f fi
 | [],_,f,fi,h=>by simp[look]at h
 |p::r,hl,f,fi,h=>by
  unfold look at h
  split at h
  .rename_i hf
   cases h
   rw[hf];exact zmr hl.1
  .exact zj4 hl.2 f fi h
abbrev oo (d:Nat) (k:OpK) (l:List Src):SI:= .op (some d) k l
abbrev kk (n:Int):Src:= .c (.int .i64 n)
abbrev mm (d s:Nat):SI:= .op (some d) .mv [.t s]
abbrev ll (d s:Nat):SI:= .op (some d) (.load false false 1) [.t s]
abbrev ff (d n s:Nat):SI:= .op (some d) (.fld n) [.t s]
abbrev sr (a b:List Nat) (l:List SI) (x:LC):LC:= .seq (.reg false a b l) x
abbrev st (a b:List Nat) (l:List SI) (x:LC):LC:= .seq (.reg true a b l) x
abbrev L1:OpK:= .load false false 1
abbrev Lt (n:Nat):OpK:= .load false true n
abbrev Be:OpK:= .bin .eql
abbrev Ba:OpK:= .bin .add
abbrev Bl:OpK:= .bin .lss
abbrev Bn:OpK:= .bin .neq
abbrev Ln:OpK:= .len false
end Go.Proofs.YtgamobngbenehaaGreatDoor
