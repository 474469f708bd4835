/-
  What a reading of an argument says of its value (conditions: none).
-/
import Derived.ChangeArms
import Derived.Carry
import Derived.Test.YtbddckhdbnmamaaGreatOmegas
namespace Go.Proofs.YtbddckhdbnmamaaGreat
open Go Go.RowKit
set_option linter.unusedVariables false
set_option linter.unusedSimpArgs false
def shFs (P:Program) (f:TypeId→Option (Bool×List Sh)):Nat→List Field→Option (List Sh)
 |_,[]=>some []
 |off,fd::r=>if fd.offset=off then (match f fd.type with
  |some (_,l)=>if l.length=P.cellsOf fd.type then (shFs P f (off+l.length) r).map (l++·) else none
  |none=>none) else none
def shT (P:Program):Nat→TypeId→Option (Bool×List Sh)
 |0,_=>none
 |n+1,t=>match P.underlying t with
  |some .bool=>some (false,[.bool])
  |some (.int k)=>some (false,[.int k])
  |some .string=>some (false,[.str])
  |some (.slice e)=>match recL e with
   |some _=>some (false,[.rcs e])
   |none=>match shT P n e with
   |some (g,l)=>if l.length=P.cellsOf e∧0<l.length∧(g=false→l.length=1) then some (false,[.sl g l]) else none
   |none=>none
  |some (.struct fs)=>match shFs P (shT P n) 0 fs.toList with
   |some l=>if l.length=P.cellsOf t then some (true,l) else none
   |none=>none
  |_=>none
def zeo (g:Bool) (n:Nat) (e:AV):Prop:=(g=true→∃cs,e= .agg cs∧cs.length=n)∧(g=false→e.cells=[e])
inductive ShOk:Sh→AV→Prop
 |bool (b:Bool):ShOk .bool (.bool b)
 |int (k:IntKind) (n:Int) (h:(Lit.int k n).wf=true):ShOk (.int k) (.int k n)
 |str (s:List UInt8) (h:s.length≤maxLen):ShOk .str (.str s)
 |nil (g:Bool) (l:List Sh):ShOk (.sl g l) (.isl (some true) l.length [])
 |sl (g:Bool) (l:List Sh) (es:List AV) (hl:es.length≤maxLen) (hr:∀(i:Nat) (e:AV),es[i]?=some e→zeo g l.length e)
   (hv:∀(i:Nat) (e:AV) (j:Nat) (c:AV) (s:Sh),es[i]?=some e→(AV.cells e)[j]?=some c→l[j]?=some s→ShOk s c):ShOk (.sl g l) (.isl (some false) l.length es)
 |rnil (e:TypeId) (g:Bool) (l:List Sh) (h:recL e=some (g,l)):ShOk (.rcs e) (.isl (some true) l.length [])
 |rsl (e:TypeId) (g:Bool) (l:List Sh) (h:recL e=some (g,l)) (es:List AV) (hl:es.length≤maxLen) (hr:∀(i:Nat) (e:AV),es[i]?=some e→zeo g l.length e)
   (hv:∀(i:Nat) (e:AV) (j:Nat) (c:AV) (s:Sh),es[i]?=some e→(AV.cells e)[j]?=some c→l[j]?=some s→ShOk s c):ShOk (.rcs e) (.isl (some false) l.length es)
def zjh (P:Program):Prop:=∀(e:TypeId) (g:Bool) (l:List Sh),recL e=some (g,l)→(∃n,shT P n e=some (g,l))∧l.length=P.cellsOf e∧0<l.length∧(g=false→l.length=1)
section arg
variable {H:Type} {enc:TypeId×Value→H} {P:Program} {w:World} {spare:Nat→Bool} {held:Bool}
def Row (w:World) (l:List Sh) (cs:List Value):Prop:=cs.length=l.length∧∀(j:Nat) (s:Sh) (u:Value),l[j]?=some s→cs[j]?=some u→∃a,ShOk s a∧VR w (fun _ _=>False) zaE a u
theorem Row.append {l m:List Sh} {cs ds:List Value} (h:Row w l cs) (h':Row w m ds):Row w (l++m) (cs++ds):=by
 refine⟨by simp[h.1,h'.1],?_⟩
 intro j s u hs hu
 by_cases hj:j<l.length
 .rw[gEa hj]at hs
  rw[gEa (by rw[h.1];exact hj)]at hu
  exact h.2 j s u hs hu
 .rw[gEr (by omega)]at hs
  rw[gEr (by rw[h.1];omega),h.1]at hu
  exact h'.2 _ s u hs hu
theorem zlD {f:TypeId→Option (Bool×List Sh)} {fuel:Nat} (hf:∀t g l,f t=some (g,l)→∀cs x,DataW.trod enc P w 0 spare held fuel t cs=some x→Row w l cs):∀(fs:List Field) (off:Nat) (l:List Sh) (cs:List Value),shFs P f off fs=some l→
  (∀fd∈fs,∃x,DataW.trod enc P w 0 spare held fuel fd.type ((cs.drop fd.offset).take (P.cellsOf fd.type))=some x)→off+l.length≤cs.length→Row w l ((cs.drop off).take l.length):=by
 intro fs
 induction fs with
 |nil=>
  intro off l cs h _ _
  simp only[shFs,oSi]at h
  subst h
  exact⟨by simp,by intro j s u hs;simp at hs⟩
 |cons fd r ih=>
  intro off l cs h hall hlen
  simp only[shFs]at h
  split at h
  .rename_i hoff
   split at h
   .rename_i g m hm
    split at h
    .rename_i hml
     simp only[oMe]at h
     obtain⟨q,hq,rfl⟩:=h
     obtain⟨x,hx⟩:=hall fd (by simp)
     have h1:=hf _ _ _ hm _ _ hx
     rw[hoff,←hml]at h1
     have h2:=ih (off+m.length) q cs hq (fun fd' hfd=>hall fd' (by simp[hfd])) (by simp at hlen;omega)
     have e:(cs.drop off).take (m++q).length=(cs.drop off).take m.length++(cs.drop (off+m.length)).take q.length:=by
      rw[List.length_append,List.take_add,List.drop_drop]
     rw[e]
     exact h1.append h2
    .cases h
   .cases h
  .cases h
theorem zi2 {a:Addr} {n:Nat} {cs:List Value} (h:w.cells? 0 a n=some cs):cs.length=n∧∀(j:Nat) (u:Value),cs[j]?=some u→w.cell? (a.add j)=some u:=by
 unfold World.cells? at h
 rw[if_pos (Nat.zero_le _)]at h
 have hl:cs.length=n:=by simpa using mapM_some_length h
 refine⟨hl,?_⟩
 intro j u hu
 have hj:j<n:=by rw[←hl];exact (gEs.1 hu).1
 have:=mapM_some_get h j j (by simp[hj])
 rw[this,hu]
theorem zm2 {a:Addr} {u:Value} (h:w.cell? (a.add 0)=some u):a=⟨a.block,a.off,none⟩:=by
 unfold Addr.add at h
 rw[if_pos rfl]at h
 unfold World.cell? at h
 split at h
 .split at h
  .cases h
  .rename_i hs
   obtain⟨b,o,s⟩:=a
   cases s with
   |none=>rfl
   |some x=>simp at hs
 .cases h
theorem zkn {fuel:Nat} {t e:TypeId} {g0:Bool} {m:List Sh} {s0:Sh} {cs:List Value} {x:DataW H×List MemPlace} (ht:P.underlying t=some (.slice e)) (hrow:∀cs x,DataW.trod enc P w 0 spare held fuel e cs=some x→Row w m cs) (c1:m.length=P.cellsOf e) (c2:0<m.length) (c3:g0=false→m.length=1)
  (hx:DataW.trod enc P w 0 spare held (fuel+1) t cs=some x) (hnil:ShOk s0 (.isl (some true) m.length []))
  (hsl:∀es:List AV,es.length≤maxLen→(∀(i:Nat) (e:AV),es[i]?=some e→zeo g0 m.length e)→(∀(i:Nat) (e:AV) (j:Nat) (c:AV) (s:Sh),es[i]?=some e→(AV.cells e)[j]?=some c→m[j]?=some s→ShOk s c)→ShOk s0 (.isl (some false) m.length es)):Row w [s0] cs:=by
 rcases DataW.trod_slice ht hx with⟨rfl,_⟩|⟨a,len,cap,elems,rest,k,hk,rfl,_,_,hlc,hcm,hel,hall,_,_⟩
 .refine⟨rfl,fun j s u hs hu=>?_⟩
  cases j with
  |zero=>
   simp at hs hu;subst hs;subst hu
   exact⟨_,hnil,.isl _ (some true) m.length [] none 0 0 0 (fun _ _=>undef) (by simp) (by simp) (by simp) (by simp) (by simp) (by simp) (by simp)⟩
  |succ j=>simp at hs
 .refine⟨rfl,fun j s u hs hu=>?_⟩
  cases j with
  |succ j=>simp at hs
  |zero=>
  simp at hs hu;subst hs;subst hu
  obtain rfl:fuel=k:=by omega
  have key:∀i,i<len→∃cs,w.cells? 0 (a.add (i* P.cellsOf e)) (P.cellsOf e)=some cs∧Row w m cs:=by
   intro i hi
   have h1:=hall i hi
   have h2:∃y,elems[i]?=some y:=⟨elems[i]'(by omega),gEg (by omega)⟩
   obtain⟨y,hy⟩:=h2
   rw[hy]at h1
   obtain⟨cs,q1,q2⟩:=oBs.1 h1
   exact⟨cs,q1,hrow _ _ q2⟩
  have ha:0<len→a=⟨a.block,a.off,none⟩:=by
   intro h0
   obtain⟨cs,q1,q2⟩:=key 0 h0
   obtain⟨l1,l2⟩:=zi2 q1
   have hne:∃u,cs[0]?=some u:=⟨cs[0]'(by rw[l1,←c1];exact c2),gEg _⟩
   obtain⟨u,hu⟩:=hne
   have:=l2 0 u hu
   simp only[Nat.zero_mul]at this
   exact zm2 (a:=a) (by
    have e0:(a.add 0)=a:=by simp[Addr.add]
    rw[e0]at this⊢
    have e1:(a.add 0)=a:=by simp[Addr.add]
    rw[e1]at this
    exact this)
  have cellp:∀i,i<len→∃cs:List Value,Row w m cs∧∀(j:Nat) (u:Value),cs[j]?=some u→w.cell? ⟨a.block,a.off+(i* m.length+j),none⟩=some u:=by
   intro i hi
   obtain⟨cs,q1,q2⟩:=key i hi
   obtain⟨l1,l2⟩:=zi2 q1
   refine⟨cs,q2,fun j u hu=>?_⟩
   have h1:=l2 j u hu
   rw[ha (by omega),zbF,zbF,←c1,Nat.add_assoc]at h1
   exact h1
  have rowp:∀i,∃e':AV,i<len→(zeo g0 m.length e'∧(AV.cells e').length=m.length∧∀(j:Nat) (c:AV),(AV.cells e')[j]?=some c→∃s u,m[j]?=some s∧ShOk s c∧w.cell? ⟨a.block,a.off+(i* m.length+j),none⟩=some u∧VR w (fun _ _=>False) zaE c u):=by
   intro i
   by_cases hi:i<len
   .obtain⟨cs,q1,q2⟩:=cellp i hi
    have each:∀j:Nat,∃c:AV,j<m.length→∃s u,m[j]?=some s∧ShOk s c∧w.cell? ⟨a.block,a.off+(i* m.length+j),none⟩=some u∧VR w (fun _ _=>False) zaE c u:=by
     intro j
     by_cases hj:j<m.length
     .have hcj:cs[j]?=some (cs[j]'(by rw[q1.1];exact hj)):=gEg _
      have hmj:m[j]?=some m[j]:=gEg hj
      obtain⟨c,r1,r2⟩:=q1.2 j _ _ hmj hcj
      exact⟨c,fun _=>⟨_,_,hmj,r1,q2 _ _ hcj,r2⟩⟩
     .exact⟨.bad,fun h=>absurd h hj⟩
    have hch:=Classical.axiomOfChoice each
    obtain⟨f,hf⟩:=hch
    cases g0 with
    |true=>
     refine⟨.agg ((List.range m.length).map f),fun _=>⟨⟨fun _=>⟨_,rfl,by simp⟩,fun h=>(by cases h)⟩,(by simp[AV.cells]),fun j c hc=>?_⟩⟩
     have hj:j<m.length:=by
      have:=(gEs.1 hc).1
      simpa[AV.cells]using this
     have hcj:c=f j:=by simpa[AV.cells,hj]using hc.symm
     subst hcj
     exact hf j hj
    |false=>
     have hm1:=c3 rfl
     have h0:=hf 0 (by omega)
     have hcell:(f 0).cells=[f 0]:=by
      obtain⟨s,u,_,r1,_,_⟩:=h0
      generalize f 0=c0 at r1
      cases r1<;>rfl
     refine⟨f 0,fun _=>⟨⟨fun h=>(by cases h),fun _=>hcell⟩,(by rw[hcell,hm1];rfl),fun j c hc=>?_⟩⟩
     rw[hcell]at hc
     cases j with
     |zero=>simp at hc;subst hc;exact h0
     |succ j=>simp at hc
   .exact⟨.bad,fun h=>absurd h hi⟩
  obtain⟨f,hf⟩:=Classical.axiomOfChoice rowp
  have hget:∀(i:Nat) (e':AV),((List.range len).map f)[i]?=some e'→i<len∧e'=f i:=by
   intro i e' he
   have hi:i<len:=by simpa using (gEs.1 he).1
   exact⟨hi,by simpa[hi]using he.symm⟩
  refine⟨.isl (some false) m.length ((List.range len).map f),hsl _ (by simp;omega) (fun i e' he=>?_) (fun i e' j c s he hc hs=>?_),?_⟩
  .obtain⟨hi,rfl⟩:=hget i e' he
   exact (hf i hi).1
  .obtain⟨hi,rfl⟩:=hget i e' he
   obtain⟨s',u,r1,r2,_⟩:=(hf i hi).2.2 j c hc
   rw[hs]at r1;cases r1
   exact r2
  .have hlen:((List.range len).map f).length=len:=by simp
   have:=VR.isl (w:=w) (M:=fun _ _=>False) zaE (some false) m.length ((List.range len).map f) (some a) cap a.block a.off (fun i j=>(w.cell? ⟨a.block,a.off+(i* m.length+j),none⟩).getD undef)
    (fun t ht=>by cases ht;rfl) (fun h=>by cases h) (by rw[hlen];exact hlc) (fun hne=>by
     have:0<len:=by
      rcases Nat.eq_zero_or_pos len with h|h
      .subst h;simp at hne
      .exact h
     rw[←ha this]) (fun i e' he=>by
     obtain⟨hi,rfl⟩:=hget i e' he
     exact (hf i hi).2.1) (fun i e' j c he hc=>by
     obtain⟨hi,rfl⟩:=hget i e' he
     obtain⟨s',u,_,_,r3,_⟩:=(hf i hi).2.2 j c hc
     exact⟨by rw[r3];rfl,fun h=>h⟩) (fun i e' j c he hc=>by
     obtain⟨hi,rfl⟩:=hget i e' he
     obtain⟨s',u,_,_,r3,r4⟩:=(hf i hi).2.2 j c hc
     show VR w _ zaE c ((w.cell? ⟨a.block,a.off+(i* m.length+j),none⟩).getD undef)
     rw[r3];exact r4)
   rw[hlen]at this
   exact this
theorem zp6 (hrec:zjh P):∀(fuel n:Nat) (t:TypeId) (g:Bool) (l:List Sh),shT P n t=some (g,l)→∀cs x,DataW.trod enc P w 0 spare held fuel t cs=some x→Row w l cs:=by
 intro fuel
 induction fuel with
 |zero=>intro n t g l h cs x hx;simp[DataW.trod]at hx
 |succ fuel ih=>
  intro n t g l h cs x hx
  cases n with
  |zero=>simp[shT]at h
  |succ n=>
  simp only[shT]at h
  split at h
  .rename_i ht
   cases h
   obtain⟨b,rfl,_⟩:=DataW.trod_bool ht hx
   exact⟨rfl,fun j s u hs hu=>by
    cases j with
    |zero=>simp at hs hu;subst hs;subst hu;exact⟨_,.bool b,.bool _ _⟩
    |succ j=>simp at hs⟩
  .rename_i k ht
   cases h
   obtain⟨m,rfl,_,hw⟩:=DataW.trod_int ht hx
   exact⟨rfl,fun j s u hs hu=>by
    cases j with
    |zero=>simp at hs hu;subst hs;subst hu;exact⟨_,.int k m hw,.int _ _ _⟩
    |succ j=>simp at hs⟩
  .rename_i ht
   cases h
   obtain⟨s0,rfl,_,hw⟩:=DataW.trod_string ht hx
   refine⟨rfl,fun j s u hs hu=>?_⟩
   cases j with
   |zero=>
    simp at hs hu;subst hs;subst hu
    refine⟨.str s0.data.toList,.str _ (by simpa using hw),?_⟩
    have:s0=⟨s0.data.toList.toArray⟩:=by cases s0;simp
    rw[this]
    exact .str _ _
   |succ j=>simp at hs
  .rename_i e ht
   split at h
   .rename_i p hp
    cases h
    obtain⟨g0,m⟩:=p
    obtain⟨⟨n',h0⟩,c1,c2,c3⟩:=hrec e g0 m hp
    exact zkn ht (ih n' e g0 m h0) c1 c2 c3 hx (.rnil e g0 m hp) (fun es h1 h2 h3=> .rsl e g0 m hp es h1 h2 h3)
   .split at h
    .rename_i g0 m hm
     split at h
     .rename_i hc
      obtain⟨c1,c2,c3⟩:=hc
      cases h
      exact zkn ht (ih n e g0 m hm) c1 c2 c3 hx (.nil g0 m) (fun es h1 h2 h3=> .sl g0 m es h1 h2 h3)
     .cases h
    .cases h
  .rename_i fs ht
   split at h
   .rename_i m hm
    split at h
    .rename_i hl
     cases h
     obtain⟨xs,k,hk,_,hcs,hxs,hall⟩:=DataW.trod_struct ht hx
     obtain rfl:fuel=k:=by omega
     have:=zlD (f:=shT P n) (fun t g l h cs x hx=>ih n t g l h cs x hx) fs.toList 0 l cs hm (fun fd hfd=>by
      obtain⟨i,hi⟩:=List.getElem?_of_mem hfd
      have hi':fs[i]?=some fd:=by simpa using hi
      have h1:=hall i fd hi'
      have hix:i<xs.length:=by rw[hxs];exact (aEs.1 hi').1
      rw[gEg hix]at h1
      exact⟨_,h1⟩) (by omega)
     rw[hl,←hcs]at this
     simpa using this
    .cases h
   .cases h
  .cases h
end arg
end Go.Proofs.YtbddckhdbnmamaaGreat
