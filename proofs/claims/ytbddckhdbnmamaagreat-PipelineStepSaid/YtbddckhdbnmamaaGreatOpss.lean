/-
  What each operation does, in abstract values (conditions: none, lemmas alone).
-/
import Derived.WalkKit
import Derived.Laws.Cover3
import Derived.Test.YtbddckhdbnmamaaGreatRels
namespace Go.Proofs.YtbddckhdbnmamaaGreat
open Go Go.RowKit
set_option linter.unusedVariables false
set_option linter.unusedSimpArgs false
/-! ### Constants and types -/
def ofV1:Value→AV
 | .bool b=> .bool b
 | .int k n=> .int k n
 | .string s=> .str s.data.toList
 | .pointer none=> .nilp
 | .slice none 0 0=> .isl (some true) 0 []
 | .nilFunc=> .nilf
 | .nilIface=> .nili
 | .map none=> .nilm
 |_=> .bad
def ofV:Value→AV
 | .agg cs=> .agg (cs.toList.map ofV1)
 |v=>ofV1 v
theorem VR.ofV1 (w:World) (M:Mut) (R:Res) (v:Value):VR w M R (ofV1 v) v:=by
 unfold Go.Proofs.YtbddckhdbnmamaaGreat.ofV1
 split
 .exact .bool _ _
 .exact .int _ _ _
 .exact .str _ _
 .exact .nilp _
 .exact .isl _ (some true) 0 [] none 0 0 0 (fun _ _=>undef) (by simp) (by simp) (by simp) (by simp) (by simp) (by simp) (by simp)
 .exact .nilf _
 .exact .nili _
 .exact .nilm _
 .exact .bad _ _
theorem VR.ofV (w:World) (M:Mut) (R:Res) (v:Value):VR w M R (ofV v) v:=by
 unfold Go.Proofs.YtbddckhdbnmamaaGreat.ofV
 split
 .rename_i cs
  refine .agg _ _ _ (by simp) ?_
  intro j c u hc hu
  simp only[gEm,oMe]at hc
  obtain⟨x,hx,rfl⟩:=hc
  have:x=u:=by
   rw[Array.getElem?_toList]at hx
   exact Option.some.inj (hx.symm.trans hu)
  subst this
  exact VR.ofV1 _ _ _ _
 .exact VR.ofV1 _ _ _ _
def zeI:Operand→Option Src
 | .tmp i=>some (.t i)
 | .const v=>some (.c (ofV v))
 | .func f=>some (.c (.clo f [] []))
 | .global g=>match glb.find? (fun p=>p.1==g) with|some p=>some (.c (.eptr p.2))|none=>none
theorem VR.src {w:World} {M:Mut} {R:Res} {E:Nat→AV} {a:Act} (hgl:GOk w M R) (he:∀i,VR w M R (E i) (a.tmps.getD i undef)) {x:Operand} {s:Src} (h:zeI x=some s):VR w M R (evS E s) (a.eval x):=by
 cases x with
 |tmp i=>simp[zeI]at h;subst h;exact he i
 |const v=>simp[zeI]at h;subst h;exact VR.ofV _ _ _ _
 |func f=>
  simp[zeI]at h;subst h
  exact .clo _ _ _ _ _ _ rfl rfl (by simp) (by simp)
 |global g=>
  simp only[zeI]at h
  split at h
  .rename_i p hp
   cases h
   have h1:=List.mem_of_find?_eq_some hp
   have h2:=List.find?_some hp
   simp only[beq_iff_eq]at h2
   subst h2
   exact hgl.1 _ (List.mem_map.2 ⟨p,h1,rfl⟩)
  .cases h
def szT (P:Program) (t:TypeId):Option Nat:=(P.info? t).map (·.size)
def aggT (P:Program) (t:TypeId):Option Bool:=
 match P.underlying t with
 |some (.struct _)=>some true
 |some (.array _ _)=>some true
 |some _=>some false
 |none=>none
def zdo (P:Program) (t:TypeId):Option Value:=(P.info? t).bind (·.zero)
section quiet
variable {P:Program} {w:World} {M:Mut} {R:Res}
def zaD (P:Program) (w:World) (M:Mut) (R:Res) (z:AV) (s:Sem Value):Prop:=∃r,s.run P w= .ok r w∧VR w M R z r
theorem zaD.of {z:AV} {s:Sem Value} (r:Value) (h:s.run P w= .ok r w) (hv:VR w M R z r):zaD P w M R z s:=⟨r,h,hv⟩
theorem zel {α:Type} [BEq α] [LawfulBEq α] [DecidableEq α] (a b:α):(a==b)=decide (a=b):=by rw[Bool.eq_iff_iff];simp
theorem zd2 (a:List UInt8):(⟨a.toArray⟩:ByteArray).toList=a:=by simp[ByteArray.toList_eq]
theorem zgS (op:BinOp) (t:TypeId) (ox oy:Operand) (k k':IntKind) (a b:Int):(eqGuard op t ox oy (.int k a) (.int k' b)).run P w= .ok () w:=by cases op<;>simp[eqGuard,go_sem]
theorem zfW (op:BinOp) (t:TypeId) (ox oy:Operand) (a b:Bool):(eqGuard op t ox oy (.bool a) (.bool b)).run P w= .ok () w:=by cases op<;>simp[eqGuard,go_sem]
theorem zgR (op:BinOp) (t:TypeId) (ox oy:Operand) (a b:ByteArray):(eqGuard op t ox oy (.string a) (.string b)).run P w= .ok () w:=by cases op<;>simp[eqGuard,go_sem]
theorem zl {α β:Type} {s:Sem α} {f:α→Sem β} {w w':World} {x:α} (h:s.run P w= .ok x w'):(s>>=f).run P w=(f x).run P w':=by
 rw[Sem.run_bind,h];rfl
theorem zwO {op:BinOp} {t:TypeId} {ox oy:Operand} {x y z:AV} {u v:Value} (hx:VR w M R x u) (hy:VR w M R y v) (hz:binV op x y=z) (hok:z≠.bad):
  zaD P w M R z (do eqGuard op t ox oy u v;binOp op t u v):=by
 unfold binV at hz
 split at hz
 .rename_i k a k' b
  cases hx;cases hy
  split at hz
  .rename_i hk;subst hk
   unfold zaD
   rw[zl (zgS ..)]
   subst hz
   cases op<;>simp only[zbZ]at hok⊢<;>try exact absurd rfl hok
   case quo=>
    split at hok
    .exact absurd rfl hok
    .rename_i hb
     refine⟨_,?_,by rw[if_neg hb];exact .int _ _ _⟩
     simp[binOp,Op.intDiv,hb,go_sem]
   case rem=>
    split at hok
    .exact absurd rfl hok
    .rename_i hb
     refine⟨_,?_,by rw[if_neg hb];exact .int _ _ _⟩
     simp[binOp,Op.intDiv,hb,go_sem]
   case shl=>
    split at hok
    .exact absurd rfl hok
    .rename_i hb
     refine⟨_,?_,by rw[if_neg hb];exact .int _ _ _⟩
     simp[binOp,Op.shift,hb,shlI,go_sem]
   case shr=>
    split at hok
    .exact absurd rfl hok
    .rename_i hb
     refine⟨_,?_,by rw[if_neg hb];exact .int _ _ _⟩
     simp[binOp,Op.shift,hb,shrI,go_sem]
   case and=>refine⟨_,?_,.int _ _ _⟩;simp[binOp,Op.intBits,zlp,go_sem]
   case or=>refine⟨_,?_,.int _ _ _⟩;simp[binOp,Op.intBits,zv5,go_sem]
   case add=>refine⟨_,?_,.int _ _ _⟩;simp[binOp,Op.intArith,go_sem]
   case sub=>refine⟨_,?_,.int _ _ _⟩;simp[binOp,Op.intArith,go_sem]
   case mul=>refine⟨_,?_,.int _ _ _⟩;simp[binOp,Op.intArith,go_sem]
   all_goals
    refine⟨_,?_,.bool _ _⟩
    simp only[binOp,ne_eq,not_true_eq_false,if_false,Op.intCmp,bne,zel]
    rfl
  .exact absurd hz.symm hok
 .rename_i a b
  cases hx;cases hy
  unfold zaD
  rw[zl (zgR ..)]
  subst hz
  cases op<;>simp only[zM]at hok⊢<;>try exact absurd rfl hok
  case add=>
   split at hok
   .rename_i hl
    refine⟨.string ⟨(a++b).toArray⟩,?_,by rw[if_pos hl];exact .str _ _⟩
    have hn:¬((((⟨a.toArray⟩:ByteArray).size+(⟨b.toArray⟩:ByteArray).size:Nat):Int)>IntKind.i64.max):=by
     simp[ByteArray.size,IntKind.max,IntKind.signed,IntKind.bits];omega
    simp only[binOp,Op.stringOp]
    rw[if_neg hn]
    simp[go_sem]
    apply ByteArray.ext;simp
   .exact absurd rfl hok
  all_goals
   refine⟨_,?_,.bool _ _⟩
   simp only[binOp,Op.stringOp,zd2,zel]
   rfl
 .exact absurd hz.symm hok
theorem zyt {op:BinOp} {neg:Bool} {t:TypeId} {ox oy:Operand} {x y z:AV} {u v:Value} (hx:VR w M R x u) (hy:VR w M R y v) (hz:eqbV neg x y=z) (hok:z≠.bad) (hop:op=if neg then .neq else .eql) (ht:P.underlying t=some .bool):
  zaD P w M R z (do eqGuard op t ox oy u v;binOp op t u v):=by
 unfold eqbV at hz
 split at hz
 .rename_i a b
  cases hx;cases hy
  unfold zaD
  rw[zl (zfW ..)]
  subst hz
  subst hop
  cases neg
  .exact⟨_,by simp only[binOp,bFt,if_false];rw[zl (Go.run_equal_bool w t a b ht)];rfl,.bool _ _⟩
  .exact⟨_,by simp only[binOp,if_true];rw[zl (Go.run_equal_bool w t a b ht)];rfl,.bool _ _⟩
 .exact absurd hz.symm hok
theorem zcc (k:IntKind) (n:Int):(asIntOf (.int k n)).run P w= .ok (k,n) w:=by simp[asIntOf,go_sem]
theorem zyn {x z:AV} {u:Value} (hx:VR w M R x u) (hz:notV x=z) (hok:z≠.bad):zaD P w M R z (Op.unary .not u):=by
 unfold notV at hz
 split at hz
 .cases hx;subst hz;exact⟨_,rfl,.bool _ _⟩
 .exact absurd hz.symm hok
theorem zyo {x z:AV} {u:Value} (hx:VR w M R x u) (hz:negV x=z) (hok:z≠.bad):zaD P w M R z (Op.unary .neg u):=by
 unfold negV at hz
 split at hz
 .cases hx;subst hz;exact⟨_,rfl,.int _ _ _⟩
 .exact absurd hz.symm hok
theorem zwN {x z:AV} {u:Value} {s d:TypeId} {k k':IntKind} (hx:VR w M R x u) (hz:zvN k x=z) (hok:z≠.bad) (hs:P.underlying s=some (.int k')) (hd:P.underlying d=some (.int k)):zaD P w M R z (convert s d u):=by
 unfold zvN at hz
 split at hz
 .cases hx;subst hz
  refine⟨_,?_,.int _ _ _⟩
  unfold convert
  rw[zl (run_underlying hs w),zl (run_underlying hd w)]
  rfl
 .exact absurd hz.symm hok
theorem zyr {i:Nat} {x z:AV} {u:Value} (hx:VR w M R x u) (hz:extV i x=z) (hok:z≠.bad):zaD P w M R z (Instr.extract u i):=by
 unfold extV at hz
 split at hz
 .rename_i vs
  cases hx
  rename_i us hs hv
  have hi:i<vs.length:=by
   rcases Nat.lt_or_ge i vs.length with h|h
   .exact h
   .rw[gEd,List.getElem?_eq_none h]at hz;exact absurd hz.symm hok
  have hi':i<us.size:=by omega
  have hvi:vs[i]?=some z:=by
   rw[gEd,gEg hi]at hz
   rw[gEg hi];exact congrArg some hz
  refine⟨us[i],?_,hv i z us[i] hvi (Array.getElem?_eq_getElem hi')⟩
  simp[Instr.extract,Array.getElem?_eq_getElem hi',go_sem]
 .exact absurd hz.symm hok
theorem zbF (b o n:Nat):(⟨b,o,none⟩:Addr).add n=⟨b,o+n,none⟩:=by unfold Addr.add;split<;>simp_all
theorem zdB {t:TypeId} {g:Bool} (h:aggT P t=some g) (w:World):(isAgg t).run P w= .ok g w:=by
 unfold aggT at h
 cases hu:P.underlying t with
 |none=>simp[hu]at h
 |some d=>
  unfold isAgg
  rw[zl (run_underlying hu w)]
  rw[hu]at h
  cases d<;>(cases h;rfl)
theorem za7 {t:TypeId} {n:Nat} (h:szT P t=some n) (w:World):(sizeOf t).run P w= .ok n w:=by
 unfold szT at h
 cases hi:P.info? t with
 |none=>simp[hi]at h
 |some i=>simp[hi]at h;subst h;simp[sizeOf,typeInfo,go_sem,hi,program,Sem.run]
def zeq (w:World) (M:Mut) (R:Res) (b o:Nat) (cs:List AV):Prop:=∀(j:Nat) (c:AV),cs[j]?=some c→∃u,w.cell? ⟨b,o+j,none⟩=some u∧VR w M R c u
theorem zeq.drop {b o:Nat} {cs:List AV} (h:zeq w M R b o cs) (k:Nat):zeq w M R b (o+k) (cs.drop k):=by
 intro j c hj
 rw[List.getElem?_drop]at hj
 have:=h (k+j) c hj
 rwa [Nat.add_assoc]
theorem zhZ {t:TypeId} {g:Bool} {n b o:Nat} {cs:List AV} {z:AV} (hc:zeq w M R b o cs) (hz:zi g n cs=z) (hok:z≠.bad) (hg:aggT P t=some g) (hn:szT P t=some n):
  zaD P w M R z (loadVar t ⟨b,o,none⟩):=by
 unfold zi at hz
 cases g with
 |false=>
  simp only[bFt,if_false]at hz
  split at hz
  .rename_i x r
   subst hz
   obtain⟨u,hu,hv⟩:=hc 0 x rfl
   refine⟨u,?_,hv⟩
   unfold loadVar
   rw[zl (zdB hg w)]
   simp only[bFt,if_false]
   rw[run_load]
   simp only[Nat.add_zero]at hu
   simp[hu]
  .exact absurd hz.symm hok
 |true=>
  simp only[if_true]at hz
  split at hz
  .rename_i hl
   subst hz
   have hex:∀j,j<n→∃u,w.cell? ⟨b,o+j,none⟩=some u∧∀c,cs[j]?=some c→VR w M R c u:=by
    intro j hj
    obtain⟨u,hu,hv⟩:=hc j cs[j] (gEg (by omega))
    exact⟨u,hu,fun c hc'=>by rw[gEg (by omega)]at hc';cases hc';exact hv⟩
   let f:Nat→Value:=fun j=>if h:j<n then (hex j h).choose else undef
   have hf:∀j,j<n→w.cell? ⟨b,o+j,none⟩=some (f j)∧∀c,cs[j]?=some c→VR w M R c (f j):=by
    intro j hj
    simp only[f,hj,dif_pos]
    exact (hex j hj).choose_spec
   refine⟨.agg ((List.range n).map f).toArray,?_,.agg _ _ _ (by simp;omega) ?_⟩
   .unfold loadVar
    rw[zl (zdB hg w)]
    simp only[if_true]
    rw[zl (za7 hn w),zl (run_loadCells w ⟨b,o,none⟩ n f (fun j hj=>by rw[zbF];exact (hf j hj).1))]
    rfl
   .intro j c u hj hu
    rw[List.getElem?_take]at hj
    split at hj
    .rename_i hjn
     have hu':f j=u:=by simpa[hjn]using hu
     rw[←hu']
     exact (hf j hjn).2 c hj
    .cases hj
  .exact absurd hz.symm hok
theorem zdD {C:zbc} {H:Heap} (hh:HR C w M R H) {id ver sz:Nat} {sh:Bool} {es:List AV} (hb:H[id]?=some (.arr ver sz sh es)) {idx:Nat} {e:AV} (he:es[idx]?=some e):
  ∃g,R id ver=some g∧g.sz=sz∧idx<g.cap∧zeq w M R g.blk (g.bs+idx* sz) e.cells:=by
 obtain⟨g,c,t,hg,_,hsz,hw,hcs,hcap,hlen,hv,_,_⟩:=hh.blk id _ hb
 have hidx:idx<es.length:=(gEs.1 he).1
 refine⟨g,hg,hsz,by omega,?_⟩
 intro j x hj
 have hjl:j<sz:=by rw[←hlen idx e he];exact (gEs.1 hj).1
 have hlt:g.bs+(idx* sz+j)<c.size:=by
  have:=Nat.mul_le_mul_right sz (show idx+1≤g.cap by omega)
  rw[hcs]
  rw[Nat.add_mul]at this
  omega
 have hcj:c[g.bs+(idx* sz+j)]?=some c[g.bs+(idx* sz+j)]:=Array.getElem?_eq_getElem hlt
 exact⟨c[g.bs+(idx* sz+j)],by rw[Nat.add_assoc];simp[World.cell?,hw,hcj],hv idx e j x _ he hj hcj⟩
theorem zmf {cs:List AV} {v:Value} (h:VR w M R (.eptr cs) v):∃b o,v= .pointer (some ⟨b,o,none⟩)∧zeq w M R b o cs:=by
 cases h with
 |eptr R cs b o u hc hv=>exact⟨b,o,rfl,fun j c hj=>⟨u j,(hc j c hj).1,(hv j c hj).noRes_any rfl⟩⟩
theorem ztd {C:zbc} {H:Heap} (hh:HR C w M R H) {t:TypeId} {g:Bool} {n:Nat} {x z:AV} {v:Value} (hx:VR w M R x v) (hz:zcM H g n x=z) (hok:z≠.bad) (hg:aggT P t=some g) (hn:szT P t=some n):
  zaD P w M R z (Instr.loadAt t v):=by
 unfold zcM at hz
 split at hz
 .rename_i cs
  obtain⟨b,o,rfl,hc⟩:=zmf hx
  obtain⟨r,h1,h2⟩:=zhZ hc hz hok hg hn
  exact⟨r,by unfold Instr.loadAt Instr.sureAddr;exact h1,h2⟩
 .rename_i id ver idx off
  split at hz
  .rename_i ver' sz sh es hb
   split at hz
   .rename_i hv;subst hv
    split at hz
    .rename_i e he
     obtain⟨g',hg',hsz,hidx,hc⟩:=zdD hh hb he
     cases hx with
     |optr R id ver idx off gg hgg=>
      rw[hg']at hgg;cases hgg
      obtain⟨r,h1,h2⟩:=zhZ (hc.drop off) hz hok hg hn
      exact⟨r,by unfold Instr.loadAt Instr.sureAddr;rw[hsz,←Nat.add_assoc];exact h1,h2⟩
    .exact absurd hz.symm hok
   .exact absurd hz.symm hok
  .exact absurd hz.symm hok
 .exact absurd hz.symm hok
def fldT (P:Program) (s:TypeId) (f:Nat):Option (Nat×TypeId):=
 match P.underlying s with
 |some (.struct fs)=>(fs[f]?).bind fun x=>match szT P x.type with|some 0=>none|some _=>some (x.offset,x.type)|none=>none
 |_=>none
theorem zyq {s ft:TypeId} {f off:Nat} {x z:AV} {v:Value} (hx:VR w M R x v) (hz:fldV off x=z) (hok:z≠.bad) (hf:fldT P s f=some (off,ft)):zaD P w M R z (Instr.fieldAt s v f):=by
 unfold fldT at hf
 split at hf
 .rename_i fs hfs
  cases hff:fs[f]? with
  |none=>simp[hff]at hf
  |some fd=>
   simp only[hff,Option.bind_some]at hf
   have hsz:∃n,szT P fd.type=some (n+1)∧fd.offset=off∧fd.type=ft:=by
    cases hn:szT P fd.type with
    |none=>simp[hn]at hf
    |some n=>cases n with
     |zero=>simp[hn]at hf
     |succ n=>simp[hn]at hf;exact⟨n,rfl,hf.1,hf.2⟩
   obtain⟨n,hn,hoff,_⟩:=hsz
   have hrun:∀b o,(Instr.fieldAt s (.pointer (some ⟨b,o,none⟩)) f).run P w= .ok (.pointer (some ⟨b,o+off,none⟩)) w:=by
    intro b o
    unfold Instr.fieldAt
    rw[zl (run_underlying hfs w)]
    simp only[hff]
    unfold Instr.sureAddr fieldPlace
    simp[Sem.run_bind,za7 hn,hoff,zbF]
   unfold fldV at hz
   split at hz
   .rename_i cs
    subst hz
    cases hx with
    |eptr R cs b o u hc hv=>
     refine⟨_,hrun b o,.eptr _ (cs.drop off) b (o+off) (fun j=>u (off+j)) (fun j c hj=>?_) (fun j c hj=>?_)⟩
     .rw[List.getElem?_drop]at hj
      have:=hc _ c hj
      rwa [←Nat.add_assoc]at this
     .rw[List.getElem?_drop]at hj
      exact hv _ c hj
   .rename_i id ver idx o
    subst hz
    cases hx with
    |optr R id ver idx off' g hg=>
     refine⟨_,hrun _ _,?_⟩
     rw[Nat.add_assoc,Nat.add_assoc]
     exact .optr _ id ver idx (o+off) g hg
   .exact absurd hz.symm hok
 .cases hf
theorem zwF {t:TypeId} {g:Bool} {n off:Nat} {cs:List AV} {us:Array Value} {z:AV} (hs:us.size=cs.length) (hv:∀(j:Nat) (c:AV) (u:Value),cs[j]?=some c→us[j]?=some u→VR w M R c u)
  (hz:zi g n (cs.drop off)=z) (hok:z≠.bad) (hg:aggT P t=some g) (hn:szT P t=some n):zaD P w M R z (part t us off):=by
 unfold zi at hz
 unfold part zaD
 rw[zl (zdB hg w)]
 cases g with
 |false=>
  simp only[bFt,if_false]at hz⊢
  split at hz
  .rename_i x r hd
   subst hz
   have hx:cs[off]?=some x:=by
    have:(cs.drop off)[0]?=some x:=by rw[hd];rfl
    rwa [List.getElem?_drop,Nat.add_zero]at this
   have hlt:off<cs.length:=(gEs.1 hx).1
   have hu:us[off]?=some us[off]:=Array.getElem?_eq_getElem (by omega)
   rw[hu]
   exact⟨_,rfl,hv off x _ hx hu⟩
  .exact absurd hz.symm hok
 |true=>
  simp only[if_true]at hz⊢
  split at hz
  .rename_i hl
   subst hz
   rw[zl (za7 hn w)]
   refine⟨_,rfl,.agg _ _ _ ?_ ?_⟩
   .simp at hl⊢;omega
   .intro j c u hj hu
    rw[List.getElem?_take]at hj
    split at hj
    .rename_i hjn
     rw[List.getElem?_drop]at hj
     have hlt:off+j<cs.length:=(gEs.1 hj).1
     refine hv (off+j) c u hj ?_
     rw[Array.getElem?_extract]at hu
     split at hu
     .exact hu
     .cases hu
    .cases hj
  .exact absurd hz.symm hok
theorem zwL {s t:TypeId} {f off:Nat} {g:Bool} {n:Nat} {x z:AV} {v:Value} {fs:Array Field} {fd:Field} (hx:VR w M R x v) (hz:zad g n off x=z) (hok:z≠.bad)
  (hs:P.underlying s=some (.struct fs)) (hf:fs[f]?=some fd) (ho:fd.offset=off) (ht:fd.type=t) (hg:aggT P t=some g) (hn:szT P t=some n):zaD P w M R z (Instr.field s v f):=by
 unfold zad at hz
 split at hz
 .cases hx with
  |agg R cs us hsz hv=>
   obtain⟨r,h1,h2⟩:=zwF hsz hv hz hok hg hn
   refine⟨r,?_,h2⟩
   unfold Instr.field
   rw[zl (run_underlying hs w)]
   simp only[hf]
   unfold asAgg
   subst ht;subst ho
   rw[zl (show (pure us:Sem (Array Value)).run P w= .ok us w from rfl)]
   exact h1
 .exact absurd hz.symm hok
theorem zff {t e:TypeId} {sz b o len cap:Nat} {k:IntKind} {n:Int} (ht:P.underlying t=some (.slice e)) (hs:szT P e=some sz) (h0:0≤n) (h1:n<len):
  (Instr.indexAt t (.slice (some ⟨b,o,none⟩) len cap) (.int k n)).run P w= .ok (.pointer (some ⟨b,o+n.toNat* sz,none⟩)) w:=by
 unfold Instr.indexAt
 rw[zl (zcc k n)]
 simp only
 simp[Sem.run_bind,run_underlying ht,h0,h1,za7 hs,zbF]
theorem zet {t e:TypeId} {sz b o len:Nat} {k:IntKind} {n:Int} (ht:P.underlying t=some (.array len e)) (hs:szT P e=some sz) (h0:0≤n) (h1:n<len):
  (Instr.indexAt t (.pointer (some ⟨b,o,none⟩)) (.int k n)).run P w= .ok (.pointer (some ⟨b,o+n.toNat* sz,none⟩)) w:=by
 unfold Instr.indexAt
 rw[zl (zcc k n)]
 simp only
 simp[Sem.run_bind,run_underlying ht,Instr.sureAddr,h0,h1,za7 hs,zbF]
theorem zwJ {t e:TypeId} {n sz:Nat} {x i z:AV} {v u:Value} (hx:VR w M R x v) (hi:VR w M R i u) (hz:zu3 n sz x i=z) (hok:z≠.bad)
  (ht:P.underlying t=some (.array n e)) (hs:szT P e=some sz):zaD P w M R z (Instr.indexAt t v u):=by
 unfold zu3 at hz
 split at hz
 .rename_i k m
  cases hi
  split at hz
  .rename_i hc
   unfold fldV at hz
   split at hz
   .rename_i cs
    subst hz
    cases hx with
    |eptr R cs b o u hc' hv=>
     refine⟨_,zet ht hs hc.1 hc.2,.eptr _ (cs.drop (m.toNat* sz)) b (o+m.toNat* sz) (fun j=>u (m.toNat* sz+j)) (fun j c hj=>?_) (fun j c hj=>?_)⟩
     .rw[List.getElem?_drop]at hj
      have:=hc' _ c hj
      rwa [←Nat.add_assoc]at this
     .rw[List.getElem?_drop]at hj
      exact hv _ c hj
   .rename_i id ver idx o
    subst hz
    cases hx with
    |optr R id ver idx off' g hg=>
     refine⟨_,zet ht hs hc.1 hc.2,?_⟩
     rw[Nat.add_assoc,Nat.add_assoc]
     exact .optr _ id ver idx (o+m.toNat* sz) g hg
   .exact absurd hz.symm hok
  .exact absurd hz.symm hok
 .exact absurd hz.symm hok
theorem zwK {C:zbc} {H:Heap} (hh:HR C w M R H) {t e:TypeId} {sz:Nat} {x i z:AV} {v u:Value} (hx:VR w M R x v) (hi:VR w M R i u) (hz:zdI H sz x i=z) (hok:z≠.bad)
  (ht:P.underlying t=some (.slice e)) (hs:szT P e=some sz):zaD P w M R z (Instr.indexAt t v u):=by
 unfold zdI at hz
 split at hz
 .rename_i nl s es k n
  cases hi
  split at hz
  .rename_i hss
   split at hz
   .rename_i hn
    split at hz
    .rename_i el hel
     subst hz
     cases hx with
     |isl R nl sz' es a cap b o uu hnl hna hcap ha hsz hc hv=>
      have hlt:n.toNat<es.length:=(gEs.1 hel).1
      have hne:es≠[]:=by intro h;subst h;simp at hlt
      rw[ha hne]
      refine⟨_,zff ht hs hn (by omega),?_⟩
      subst hss
      refine .eptr _ el.cells b (o+n.toNat* s) (uu n.toNat) (fun j c hj=>?_) (fun j c hj=>?_)
      .have:=hc n.toNat el j c hel hj
       rwa [←Nat.add_assoc]at this
      .exact hv n.toNat el j c hel hj
    .exact absurd hz.symm hok
   .exact absurd hz.symm hok
  .exact absurd hz.symm hok
 .rename_i id ver off len k n
  cases hi
  split at hz
  .rename_i ver' s sh es hb
   split at hz
   .rename_i hcond
    obtain⟨hv1,hs1,hn0,hn1⟩:=hcond
    subst hz
    cases hx with
    |osl R id ver off len g aa hg hle haa=>
     rw[haa (by omega)]
     obtain⟨g',c,tt,hg',_,hsz,hrest⟩:=hh.blk id _ hb
     subst hv1
     rw[hg]at hg';cases hg'
     refine⟨_,zff ht hs hn0 hn1,?_⟩
     have:=VR.optr (w:=w) (M:=M) R id ver' (off+n.toNat) 0 g hg
     rw[Nat.add_mul,Nat.add_zero,←Nat.add_assoc]at this
     have e:g.sz=sz:=by omega
     rw[e]at this⊢
     exact this
   .exact absurd hz.symm hok
  .exact absurd hz.symm hok
 .exact absurd hz.symm hok
theorem zwI {t:TypeId} {x i z:AV} {v u:Value} (hx:VR w M R x v) (hi:VR w M R i u) (hz:znZ x i=z) (hok:z≠.bad) (ht:P.underlying t=some .string):zaD P w M R z (Instr.index t v u):=by
 unfold znZ at hz
 split at hz
 .rename_i s k n
  cases hx;cases hi
  split at hz
  .rename_i hn
   split at hz
   .rename_i b hb
    subst hz
    refine⟨_,?_,.int _ _ _⟩
    unfold Instr.index
    rw[zl (zcc k n)]
    simp only
    rw[zl (run_underlying ht w)]
    have:(⟨s.toArray⟩:ByteArray)[n.toNat]?=some b:=by
     have hlt:n.toNat<s.length:=(gEs.1 hb).1
     have h2:s[n.toNat]=b:=by
      rw[gEg hlt]at hb;exact Option.some.inj hb
     rw[←h2]
     rw[getElem?_pos _ _ (by simp[ByteArray.size];exact hlt)]
     rfl
    simp[hn,this,go_sem]
   .exact absurd hz.symm hok
  .exact absurd hz.symm hok
 .exact absurd hz.symm hok
theorem zwH {t:TypeId} {ts:Array TypeId} {ty:TypeId} {str:Bool} {x z:AV} {v:Value} (hx:VR w M R x v) (hz:lenV str x=z) (hok:z≠.bad) (ht0:ts[0]?=some t)
  (hs:str=true→P.underlying t=some .string) (hs':str=false→∃e,P.underlying t=some (.slice e)):zaD P w M R z (Builtin.len_ ts ty #[v]):=by
 unfold lenV at hz
 have run1:∀e a n c,P.underlying t=some (.slice e)→(Builtin.len_ ts ty #[.slice a n c]).run P w= .ok (.int .i64 n) w:=by
  intro e a n c he
  unfold Builtin.len_
  simp only[ht0]
  show (underlying t>>=_).run P w=_
  rw[zl (run_underlying he w)]
  rfl
 split at hz
 .rename_i nl s es
  subst hz
  obtain⟨e,he⟩:=hs' rfl
  cases hx with
  |isl R nl sz es a cap b o u hnl hna hcap ha hsz hc hv=>exact⟨_,run1 e _ _ _ he,.int _ _ _⟩
 .rename_i s
  subst hz
  cases hx
  refine⟨_,?_,.int _ _ _⟩
  unfold Builtin.len_
  simp only[ht0]
  show (underlying t>>=_).run P w=_
  rw[zl (run_underlying (hs rfl) w)]
  rfl
 .rename_i id ver off n
  subst hz
  obtain⟨e,he⟩:=hs' rfl
  cases hx with
  |osl R id ver off len g aa hg hle haa=>exact⟨_,run1 e _ _ _ he,.int _ _ _⟩
 .exact absurd hz.symm hok
theorem zqg {x z:AV} {u:Value} (hx:VR w M R x u) (hz:zcL x=z) (hok:z≠.bad)
  (ρ:Operand→Value) (y:Operand) (hy:ρ y=u) (d:Option Tmp) (ty:TypeId) (ps:String) (af:Array Edge) (gd:Option (Nat×Bool)):
  (execOp ρ ⟨d,.nilCheck y,ty,ps,af,gd⟩).run P w= .ok (.value u) w∧VR w M R z u:=by
 unfold zcL at hz
 split at hz
 .subst hz
  cases hx with
  |eptr R _ b o uu hc hv=>exact⟨by simp[execOp,hy,go_sem],.eptr _ _ b o uu hc hv⟩
 .subst hz
  have h2:=hx
  cases hx with
  |optr R id ver idx off g hg=>exact⟨by simp[execOp,hy,go_sem],h2⟩
 .subst hz
  have h2:=hx
  cases hx with
  |clo R f xs ys us vs hs hs' hu hv=>exact⟨by simp[execOp,hy,go_sem],h2⟩
 .subst hz
  have h2:=hx
  cases hx with
  |yld R id g hg=>exact⟨by simp[execOp,hy,go_sem],h2⟩
 .exact absurd hz.symm hok
theorem zyu {f:FuncId} {n:Nat} {vs:List AV} {z:AV} {fs ds:Array Value} (hx:VRs w M R vs (fs.toList++ds.toList)) (hn:fs.size=n) (hz:AV.clo f (vs.take n) (vs.drop n)=z):zaD P w M R z (Instr.makeFunc (.func f) fs ds):=by
 subst hz
 have hl:vs.length=fs.size+ds.size:=by have:=hx.1;simp at this;omega
 refine⟨_,rfl,.clo _ _ _ _ _ _ ?_ ?_ ?_ ?_⟩
 .simp;omega
 .simp;omega
 .intro j c u hj hu
  rw[List.getElem?_take]at hj
  split at hj
  .refine hx.2 j c u hj ?_
   rw[gEa (by simp;omega),Array.getElem?_toList];exact hu
  .cases hj
 .intro j c u hj hu
  rw[List.getElem?_drop]at hj
  refine hx.2 _ c u hj ?_
  rw[gEr (by simp;omega)]
  simp only[Array.length_toList,hn,Nat.add_sub_cancel_left]
  rw[Array.getElem?_toList];exact hu
/-! ### Struct literals -/
theorem VR.cells {x:AV} {v:Value} (h:VR w M R x v) (hok:x.ok=true):
  v.cells.size=x.cells.length∧∀(j:Nat) (c:AV) (u:Value),x.cells[j]?=some c→v.cells[j]?=some u→VR w M R c u:=by
 have one:∀{x:AV} {v:Value},VR w M R x v→x.cells=[x]→v.cells=#[v]→v.cells.size=x.cells.length∧∀(j:Nat) (c:AV) (u:Value),x.cells[j]?=some c→v.cells[j]?=some u→VR w M R c u:=by
  intro x v h h1 h2
  rw[h1,h2]
  refine⟨rfl,?_⟩
  intro j c u hj hu
  cases j with
  |zero=>simp at hj hu;subst hj;subst hu;exact h
  |succ j=>simp at hj
 have h0:=h
 cases h with
 |bad R v=>cases hok
 |agg R cs vs hs hv=>exact⟨hs,hv⟩
 |_=>exact one h0 rfl rfl
def CR (w:World) (M:Mut) (R:Res) (z:List AV) (c:Array Value):Prop:=c.size=z.length∧∀(j:Nat) (x:AV) (u:Value),z[j]?=some x→c[j]?=some u→VR w M R x u
theorem zfC (off:Nat):∀(vs:List Value) (k:Nat) (c:Array Value),(vs.zipIdx k).foldl (fun cs (p:Value×Nat)=>cs.setIfInBounds (off+p.2) p.1) c=
  (c.toList.take (off+k)++(vs.take (c.size - (off+k)))++c.toList.drop (off+k+vs.length)).toArray
 | [],k,c=>by simp
 |v::vs,k,c=>by
  simp only[List.zipIdx_cons,List.foldl_cons]
  rw[zfC off vs (k+1)]
  apply Array.ext'
  simp only[Array.size_setIfInBounds,Array.toList_setIfInBounds]
  rcases Nat.lt_or_ge (off+k) c.size with h|h
  .have e:c.size - (off+k)=(c.size - (off+(k+1)))+1:=by omega
   rw[e,List.take_succ_cons]
   rw[show off+(k+1)=off+k+1 by omega]
   rw[List.take_succ_eq_append_getElem (by simpa using h)]
   simp only[List.getElem_set_self,List.append_assoc,List.singleton_append,lLc]
   rw[List.drop_set_of_lt (by omega),List.take_set_of_le (by omega),show off+k+1+vs.length=off+k+(vs.length+1) by omega]
  .rw[show c.size - (off+k)=0 by omega,show c.size - (off+(k+1))=0 by omega]
   simp only[List.take_zero,List.append_nil]
   rw[List.set_eq_of_length_le (by simpa using h)]
   rw[List.take_of_length_le (by simp;omega),List.take_of_length_le (by simp;omega),List.drop_of_length_le (by simp;omega),List.drop_of_length_le (by simp;omega)]
theorem CR.splice {z:List AV} {c:Array Value} {ys:List AV} {vs:Array Value} (h:CR w M R z c) (hv:CR w M R ys vs) {off:Nat} (hl:off+ys.length≤z.length):
  CR w M R (splice z off ys) (vs.zipIdx.foldl (fun cs (p:Value×Nat)=>cs.setIfInBounds (off+p.2) p.1) c):=by
 rw[←Array.foldl_toList,Array.toList_zipIdx,zfC]
 obtain⟨hs,hr⟩:=h
 obtain⟨hs',hr'⟩:=hv
 have e1:vs.toList.take (c.size - (off+0))=vs.toList:=List.take_of_length_le (by simp;omega)
 rw[e1]
 unfold Go.Proofs.YtbddckhdbnmamaaGreat.splice
 refine⟨by simp;omega,?_⟩
 intro j x u hj hu
 simp only[Nat.add_zero,List.getElem?_toArray]at hu
 rcases Nat.lt_or_ge j off with h1|h1
 .rw[List.append_assoc,gEa (by simp;omega),List.getElem?_take,if_pos h1]at hj
  rw[List.append_assoc,gEa (by simp;omega),List.getElem?_take,if_pos h1,Array.getElem?_toList]at hu
  exact hr j x u hj hu
 .rcases Nat.lt_or_ge j (off+ys.length) with h2|h2
  .rw[gEa (by simp;omega),gEr (by simp;omega)]at hj
   rw[gEa (by simp;omega),gEr (by simp;omega),Array.getElem?_toList]at hu
   have e2:(c.toList.take off).length=(z.take off).length:=by simp;omega
   rw[e2]at hu
   exact hr' _ x u hj hu
  .rw[gEr (by simp;omega),List.getElem?_drop]at hj
   rw[gEr (by simp;omega),List.getElem?_drop,Array.getElem?_toList]at hu
   have e2:(c.toList.take off++vs.toList).length=(z.take off++ys).length:=by simp;omega
   have e3:vs.toList.length=ys.length:=by simpa using hs'
   rw[e2,e3]at hu
   exact hr _ x u hj hu
theorem VR.cr {x:AV} {v:Value} (h:VR w M R x v) (hok:x.ok=true):CR w M R x.cells v.cells:=h.cells hok
theorem znd (pl:Nat→Option (Nat×Nat)):∀(ps:List (Nat×Nat)) (is:List Nat) (z:List AV) (c:Array Value) (xs:List AV) (vs:List Value) (r:AV),CR w M R z c→VRs w M R xs vs→is.map pl=ps.map some→is.length=vs.length→bldV z ps xs=r→r≠.bad→
  ∃c' z',Instr.fill pl c (is.zip vs)=some c'∧r= .agg z'∧CR w M R z' c'
 | [],is,z,c,xs,vs,r,hc,hv,hp,hl,hr,hok=>by
  have hi:is=[]:=by simpa using hp
  subst hi
  have hvs:vs=[]:=by simpa using hl.symm
  subst hvs
  have hxs:xs=[]:=by have:=hv.1;simpa using this.symm
  subst hxs
  exact⟨c,z,rfl,hr.symm,hc⟩
 |(off,n)::ps,is,z,c,xs,vs,r,hc,hv,hp,hl,hr,hok=>by
  cases is with
  |nil=>simp at hp
  |cons i is=>
   cases xs with
   |nil=>simp[bldV]at hr;exact absurd hr.symm hok
   |cons x xs=>
    obtain⟨v,vs,rfl,hxv,hrest⟩:=hv.inv_cons
    simp only[List.map_cons,List.cons.injEq]at hp
    simp only[bldV]at hr
    split at hr
    .rename_i hcond
     obtain⟨h1,h2,h3⟩:=hcond
     have hcr:=hxv.cr h3
     have hcs:v.cells.size=n:=by rw[hcr.1,h1]
     have hsz:¬(off+v.cells.size>c.size):=by rw[hc.1,hcs];omega
     obtain⟨c',z',e1,e2,e3⟩:=znd pl ps is _ _ xs vs r (hc.splice hcr (off:=off) (by rw[h1];omega)) hrest hp.2 (by simpa using hl) hr hok
     refine⟨c',z',?_,e2,e3⟩
     simp only[List.zip_cons_cons,Instr.fill,hp.1]
     rw[if_neg (by simp[hcs];omega)]
     exact e1
    .exact absurd hr.symm hok
def zh6 (P:Program) (fs:Array Field) (i:Nat):Option (Nat×Nat):=(fs[i]?).bind fun f=>(szT P f.type).map fun n=>(f.offset,n)
theorem zlH (fs:List Field) (hall:∀f∈fs,(szT P f.type).isSome=true):((fs.mapM fun f=>do pure (f.offset,←sizeOf f.type):Sem (List (Nat×Nat))).run P w= .ok (fs.map fun f=>(f.offset,(szT P f.type).getD 0)) w):=by
 induction fs with
 |nil=>rfl
 |cons f fs ih=>
  obtain⟨n,hn⟩:=Option.isSome_iff_exists.1 (hall f (by simp))
  rw[List.mapM_cons,Sem.run_bind,Sem.run_bind,za7 hn]
  simp only[Result.andThen_ok,Sem.run_pure]
  rw[Sem.run_bind,ih (fun g hg=>hall g (by simp[hg]))]
  simp[hn]
theorem zyv {t:TypeId} {fs:Array Field} {zv:Array Value} {ps:List (Nat×Nat)} {is:List Nat} {xs:List AV} {vs:List Value} {r:AV} (ht:P.underlying t=some (.struct fs)) (hz:zdo P t=some (.agg zv))
  (hall:fs.toList.all (fun f=>(szT P f.type).isSome)=true) (hp:is.map (zh6 P fs)=ps.map some) (hl:is.length=vs.length) (hv:VRs w M R xs vs) (hr:bldV (zv.toList.map ofV1) ps xs=r) (hok:r≠.bad):
  zaD P w M R r (Instr.build t (is.zip vs).toArray):=by
 have hc0:CR w M R (zv.toList.map ofV1) zv:=by
  refine⟨by simp,?_⟩
  intro j x u hj hu
  simp only[gEm,oMe]at hj
  obtain⟨y,hy,rfl⟩:=hj
  rw[Array.getElem?_toList,hu]at hy
  cases hy
  exact VR.ofV1 _ _ _ _
 have hpl:∀i,((fs.toList.map fun f=>(f.offset,(szT P f.type).getD 0)).toArray)[i]?=zh6 P fs i:=by
  intro i
  simp only[List.getElem?_toArray,gEm,Array.getElem?_toList,zh6]
  cases hf:fs[i]? with
  |none=>rfl
  |some f=>
   have:=lAt.1 hall f (by rw[Array.mem_toList_iff];exact Array.mem_of_getElem? hf)
   obtain⟨n,hn⟩:=Option.isSome_iff_exists.1 this
   simp[hn]
 obtain⟨c',z',e1,e2,e3⟩:=znd (fun i=>((fs.toList.map fun f=>(f.offset,(szT P f.type).getD 0)).toArray)[i]?) ps is _ _ xs vs r hc0 hv (by rw[←hp];exact List.map_congr_left (fun i _=>hpl i)) hl hr hok
 subst e2
 refine⟨.agg c',?_,.agg _ _ _ e3.1 e3.2⟩
 unfold Instr.build
 have hzr:(zeroValue t).run P w= .ok (.agg zv) w:=by
  unfold zdo at hz
  cases hi:P.info? t with
  |none=>simp[hi]at hz
  |some i=>
   simp only[hi,Option.bind_some]at hz
   unfold zeroValue
   rw[zl (run_typeInfo (P:=P) (w:=w) hi)]
   simp[hz]
 rw[zl hzr,zl (run_underlying ht w)]
 have hm:(fs.mapM fun f=>do pure (f.offset,←sizeOf f.type):Sem (Array (Nat×Nat))).run P w= .ok (fs.toList.map fun f=>(f.offset,(szT P f.type).getD 0)).toArray w:=by
  rw[Array.mapM_eq_mapM_toList,map_eq_pure_bind,zl (zlH fs.toList (fun f hf=>lAt.1 hall f hf))]
  rfl
 simp only
 rw[zl hm]
 show (match Instr.fill (fun i=>((fs.toList.map fun f=>(f.offset,(szT P f.type).getD 0)).toArray)[i]?) zv (is.zip vs) with|some cells=>pure (Value.agg cells)|_=>stuck "build: no such field, or a part of the wrong size":Sem Value).run P w=_
 rw[e1]
 rfl
/-! ### Slice expressions -/
theorem zaw (k:IntKind) (i:Int) (y:Nat) (code:BoundsCode) (h0:0≤i) (h1:i≤y):(Instr.sliceBound (.int k i) y code).run P w= .ok i.toNat w:=by
 unfold Instr.sliceBound
 rw[zl (zcc k i)]
 simp[h0,h1,go_sem]
theorem zbJ {lo hi:Bool} {is:Bool} {len cap l h:Nat} {bs:List AV} {los his:Option Value} (hle:len≤cap) (hb:zav len lo hi bs=some (l,h))
  (hv:VRs w M R bs (los.toList++his.toList)) (hlo:los.isSome=lo) (hhi:his.isSome=hi):
  (Instr.sliceBounds is len cap los his none).run P w= .ok (l,h,cap) w∧l≤h∧h≤len:=by
 have hm:(show Sem Nat from pure cap).run P w= .ok cap w:=rfl
 unfold zav at hb
 split at hb
 .cases hb
  cases los<;>cases his<;>simp at hlo hhi
  exact⟨rfl,by omega,by omega⟩
 .split at hb
  .rename_i hc
   cases hb
   cases los<;>cases his<;>simp at hlo hhi
   simp only[Option.toList_some,Option.toList_none,List.append_nil]at hv
   obtain⟨v,vs,e,h1,_⟩:=hv.inv_cons
   cases e
   cases h1
   refine⟨?_,by omega,by omega⟩
   unfold Instr.sliceBounds
   simp only[Option.isSome_none,bFt,if_false,pure_bind]
   rw[zl (zaw _ _ _ _ hc.1 hc.2)]
   rfl
  .cases hb
 .split at hb
  .rename_i hc
   cases hb
   cases los<;>cases his<;>simp at hlo hhi
   simp only[Option.toList_some,Option.toList_none,List.nil_append]at hv
   obtain⟨v,vs,e,h1,_⟩:=hv.inv_cons
   cases e
   cases h1
   refine⟨?_,by omega,by omega⟩
   unfold Instr.sliceBounds
   simp only[Option.isSome_none,bFt,if_false,pure_bind]
   rw[zl (zaw _ _ _ _ hc.1 (by omega))]
   rfl
  .cases hb
 .split at hb
  .rename_i hc
   cases hb
   cases los<;>cases his<;>simp at hlo hhi
   simp only[Option.toList_some,List.singleton_append]at hv
   obtain⟨v,vs,e,h1,h2⟩:=hv.inv_cons
   cases e
   obtain⟨v,vs,e,h3,_⟩:=h2.inv_cons
   cases e
   cases h1
   cases h3
   refine⟨?_,by omega,by omega⟩
   unfold Instr.sliceBounds
   simp only[pure_bind]
   rw[zl (zaw _ _ _ _ (by omega) (by omega))]
   rw[zl (zaw _ _ _ _ hc.1 (by omega))]
   rfl
  .cases hb
 .cases hb
theorem zcH {t e:TypeId} {sz:Nat} {a:Option Addr} {len cap l h:Nat} {los his:Option Value} (ht:P.underlying t=some (.slice e)) (hs:szT P e=some sz)
  (hb:(Instr.sliceBounds true len cap los his none).run P w= .ok (l,h,cap) w):(Instr.sliceAt t (.slice a len cap) los his none).run P w= .ok (.slice (if cap=l then a else a.map (·.add (l* sz))) (h - l) (cap - l)) w:=by
 unfold Instr.sliceAt
 rw[zl (run_underlying ht w)]
 unfold Instr.slice
 simp only
 rw[zl (run_underlying ht w)]
 simp only
 rw[zl hb]
 simp only
 rw[zl (za7 hs w)]
 rfl
theorem zwE {C:zbc} {H:Heap} (hh:HR C w M R H) {t:TypeId} {str:Bool} {sz:Nat} {lo hi:Bool} {x z:AV} {bs:List AV} {v:Value} {los his:Option Value} (hx:VR w M R x v) (hv:VRs w M R bs (los.toList++his.toList)) (hlo:los.isSome=lo) (hhi:his.isSome=hi)
  (hz:slcV H str sz lo hi x bs=z) (hok:z≠.bad) (hty:str=true→P.underlying t=some .string) (hty':str=false→∃e,P.underlying t=some (.slice e)∧szT P e=some sz):
  zaD P w M R z (Instr.sliceAt t v los his none):=by
 unfold slcV at hz
 split at hz
 .rename_i nl s es
  obtain⟨e,he,hse⟩:=hty' rfl
  split at hz
  .rename_i hsz0
   split at hz
   .rename_i l h hb
    subst hz
    cases hx with
    |isl R nl _ es a cap b o u hnl hna hcap ha hsz hc hvv=>
     obtain⟨hrun,hlh,hhl⟩:=zbJ (is:=true) hcap hb hv hlo hhi
     refine⟨_,zcH he hse hrun,?_⟩
     have hlen:((es.take h).drop l).length=h - l:=by simp;omega
     have key:=VR.isl (w:=w) (M:=M) R nl s ((es.take h).drop l) (if cap=l then a else a.map (·.add (l* sz))) (cap - l) b (o+l* s) (fun i j=>u (l+i) j) ?_ ?_ ?_ ?_ ?_ ?_ ?_
     .rw[hlen]at key;exact key
     .intro t ht';rw[←hnl t ht'];split<;>simp
     .intro hnone
      have:a=none:=by
       split at hnone
       .exact hnone
       .simpa using hnone
      obtain⟨h1,h2⟩:=hna this
      subst h1;subst h2
      simp
     .rw[hlen];omega
     .intro hne
      have hl':l<h:=by
       rcases Nat.lt_or_ge l h with h'|h'
       .exact h'
       .exfalso;apply hne;apply List.eq_nil_of_length_eq_zero;rw[hlen];omega
      have hes:es≠[]:=by intro h';subst h';simp at hhl;omega
      rw[ha hes]
      rw[if_neg (by omega)]
      rcases hsz0 with h'|h'
      .subst h';simp[zbF]
      .exact absurd h' hes
     .intro i e hi
      rw[List.getElem?_drop,List.getElem?_take]at hi
      split at hi
      .exact hsz _ e hi
      .cases hi
     .intro i e j c hi hj
      rw[List.getElem?_drop,List.getElem?_take]at hi
      split at hi
      .have:=hc _ e j c hi hj
       have e1:o+l* s+(i* s+j)=o+((l+i)* s+j):=by rw[Nat.add_mul];omega
       rw[e1];exact this
      .cases hi
     .intro i e j c hi hj
      rw[List.getElem?_drop,List.getElem?_take]at hi
      split at hi
      .exact hvv _ e j c hi hj
      .cases hi
   .exact absurd hz.symm hok
  .exact absurd hz.symm hok
 .rename_i id ver off len
  obtain⟨e,he,hse⟩:=hty' rfl
  split at hz
  .rename_i ver' s sh es hb0
   split at hz
   .rename_i hvs
    obtain⟨hv1,hs1⟩:=hvs
    split at hz
    .rename_i l h hb
     .subst hz
      cases hx with
      |osl R id _ off len g aa hg hle haa=>
       obtain⟨g',c,tt,hg',_,hsz,hrest⟩:=hh.blk id _ hb0
       subst hv1
       rw[hg]at hg';cases hg'
       obtain⟨hrun,hlh,hhl⟩:=zbJ (is:=true) (show len≤g.cap - off by omega) hb hv hlo hhi
       refine⟨_,zcH he hse hrun,?_⟩
       have e1:g.sz=sz:=by omega
       by_cases hcl:g.cap - off=l
       .have key:=VR.osl (w:=w) (M:=M) R id ver' (off+l) (h - l) g aa hg (by omega) (fun hlt=>by omega)
        rw[←Nat.sub_sub]at key
        rw[if_pos hcl]
        exact key
       .have key:=VR.osl (w:=w) (M:=M) R id ver' (off+l) (h - l) g (aa.add (l* sz)) hg (by omega) (fun hlt=>by
         rw[haa (by omega),e1,Nat.add_mul,←Nat.add_assoc];simp[zbF])
        rw[←Nat.sub_sub]at key
        rw[if_neg hcl]
        exact key
    .exact absurd hz.symm hok
   .exact absurd hz.symm hok
  .exact absurd hz.symm hok
 .rename_i s
  have hts:=hty rfl
  split at hz
  .rename_i l h hb
   subst hz
   cases hx
   obtain⟨hrun,hlh,hhl⟩:=zbJ (w:=w) (P:=P) (is:=false) (Nat.le_refl s.length) hb hv hlo hhi
   have hkey:(⟨s.toArray⟩:ByteArray).extract l h=⟨((s.take h).drop l).toArray⟩:=by
    apply ByteArray.ext
    apply Array.ext'
    simp[ByteArray.data_extract,List.extract_eq_take_drop,List.drop_take]
   refine⟨.string ⟨((s.take h).drop l).toArray⟩,?_,.str _ _⟩
   unfold Instr.sliceAt
   rw[zl (run_underlying hts w)]
   unfold Instr.slice
   simp only
   rw[zl (run_underlying hts w)]
   simp only[Option.isSome_none,bFt,if_false,pure_bind]
   have:(⟨s.toArray⟩:ByteArray).size=s.length:=by simp[ByteArray.size]
   rw[this,zl hrun,←hkey]
   rfl
  .exact absurd hz.symm hok
 .exact absurd hz.symm hok
/-! ### Equality of structs;equality with nil -/
def zir (P:Program) (t:TypeId):Option Nat:=
 match P.underlying t with
 |some (.int _)=>some 0
 |some .bool=>some 1
 |some .string=>some 2
 |_=>none
def zlY (P:Program):Nat→List Field→Option (List Nat)
 |_,[]=>some []
 |k,f::fs=>if f.name≠ "_"∧f.offset=k then (match zir P f.type,zlY P (k+1) fs with|some q,some qs=>some (q::qs)|_,_=>none) else none
theorem zcp {d:Nat} {t:TypeId} {q:Nat} {x y:AV} {u v:Value} {b:Bool} (hx:VR w M R x u) (hy:VR w M R y v) (hk:zir P t=some q) (he:zbf q x y=some b):(Op.equalIn (d+1) t u v).run P w= .ok b w:=by
 unfold zir at hk
 unfold zbf at he
 split at he
 .split at hk<;>simp at hk
  rename_i k ht
  cases hx;cases hy
  split at he
  .cases he
   rename_i hkk;subst hkk
   rw[run_equalIn_int w d t _ _ _ _ ht,zel]
  .cases he
 .split at hk<;>simp at hk
  rename_i ht
  cases hx;cases hy
  cases he
  rw[run_equalIn_bool w d t _ _ ht]
 .split at hk<;>simp at hk
  rename_i ht
  cases hx;cases hy
  cases he
  rw[run_equalIn_string w d t _ _ ht,zd2,zd2,zel]
 .cases he
theorem zbt {t:TypeId} {q:Nat} {cs:Array Value} {o:Nat} (hk:zir P t=some q) (ho:o<cs.size):(part t cs o).run P w= .ok cs[o] w:=by
 have ha:aggT P t=some false:=by
  unfold zir at hk
  unfold aggT
  split at hk<;>simp at hk<;>simp_all
 unfold part
 rw[zl (zdB ha w)]
 simp only[bFt,if_false]
 rw[Array.getElem?_eq_getElem ho]
 rfl
theorem zeu {d:Nat} {as bs:List AV} {us vs:Array Value} (ha:CR w M R as us) (hb:CR w M R bs vs):∀(fs:List Field) (k:Nat) (qs:List Nat) (b:Bool),zlY P k fs=some qs→zcW qs (as.drop k) (bs.drop k)=some b→
  (Op.eqFields (d+1) us vs fs).run P w= .ok b w
 | [],k,qs,b,hf,he=>by
  simp[zlY]at hf
  subst hf
  unfold zcW at he
  split at he<;>simp_all [Op.eqFields]
 |f::fs,k,qs,b,hf,he=>by
  simp only[zlY]at hf
  split at hf
  .rename_i hc
   split at hf
   .rename_i q qs' hq hqs
    cases hf
    unfold zcW at he
    split at he
    .simp at *
    .rename_i q0 qs0 x xs y ys h1 h2 h3
     cases h1
     split at he
     .rename_i b1 b2 e1 e2
      cases he
      have hx:as[k]?=some x:=by
       have:=congrArg (·[0]?) h2
       simpa using this
      have hy:bs[k]?=some y:=by
       have:=congrArg (·[0]?) h3
       simpa using this
      have hkx:k<us.size:=by rw[ha.1];exact (gEs.1 hx).1
      have hky:k<vs.size:=by rw[hb.1];exact (gEs.1 hy).1
      have hxs:as.drop (k+1)=xs:=by rw[←List.tail_drop,h2];rfl
      have hys:bs.drop (k+1)=ys:=by rw[←List.tail_drop,h3];rfl
      simp only[Op.eqFields]
      rw[if_pos hc.1,hc.2]
      rw[zl (zbt hq hkx),zl (zbt hq hky),zl (zcp (ha.2 k x _ hx (Array.getElem?_eq_getElem hkx)) (hb.2 k y _ hy (Array.getElem?_eq_getElem hky)) hq e1)]
      cases b1 with
      |false=>rfl
      |true=>
       simp only[Bool.not_true,bFt,if_false,Bool.true_and]
       exact zeu ha hb fs (k+1) _ b2 hqs (by rw[hxs,hys];exact e2)
     .cases he
    .cases he
   .cases hf
  .cases hf
theorem zys {op:BinOp} {neg:Bool} {t:TypeId} {ox oy:Operand} {fs:Array Field} {qs:List Nat} {x y z:AV} {u v:Value} (hx:VR w M R x u) (hy:VR w M R y v) (hz:eqsV neg qs x y=z) (hok:z≠.bad)
  (hop:op=if neg then .neq else .eql) (ht:P.underlying t=some (.struct fs)) (hf:zlY P 0 fs.toList=some qs) (hp:P.stoodInHeld t=false) (hm:P.eqGuardType P.depth t=false):
  zaD P w M R z (do eqGuard op t ox oy u v;binOp op t u v):=by
 unfold eqsV at hz
 split at hz
 .rename_i a b
  cases hx with
  |agg R _ us hs hv=>
   cases hy with
   |agg R _ vs hs' hv'=>
    split at hz
    .rename_i r hr
     subst hz
     have hfo:P.fieldsOf t=fs:=by unfold Program.fieldsOf;rw[ht]
     have he:=zeu (P:=P) (w:=w) (d:=9998) (us:=us) (vs:=vs) ⟨hs,hv⟩ ⟨hs',hv'⟩ fs.toList 0 qs r hf (by simpa using hr)
     have he2:(Op.equalIn 10000 t (.agg us) (.agg vs)).run P w= .ok r w:=by
      rw[show (10000:Nat)=9999+1 from rfl,run_equalIn_struct w 9999 t us vs (by rw[hfo];exact ht) hp,hfo]
      exact he
     unfold zaD
     rw[zl (run_eqGuard_agg w op t ox oy us vs hm)]
     subst hop
     cases neg with
     |false=>exact⟨_,by simp only[bFt,if_false];rw[run_eql_struct,he2];rfl,.bool _ _⟩
     |true=>exact⟨_,by simp only[if_true];rw[run_neq_struct,he2];rfl,.bool _ _⟩
    .exact absurd hz.symm hok
 .exact absurd hz.symm hok
theorem zaJ {op:BinOp} {t:TypeId} {ox oy:Operand} {u v:Value} (h:(∃a n c,u= .slice a n c)∨(∃p,u= .pointer p)∨(∃f x y,u= .func f x y)∨u= .nilFunc):(eqGuard op t ox oy u v).run P w= .ok () w:=by
 rcases h with⟨a,n,c,rfl⟩|⟨p,rfl⟩|⟨f,x,y,rfl⟩|rfl<;>cases op<;>simp[eqGuard,go_sem]
theorem zwM {op:BinOp} {ptr neg:Bool} {t:TypeId} {ox oy:Operand} {x z:AV} {u v:Value} (hx:VR w M R x u) (hz:eqnV ptr neg x=z) (hok:z≠.bad) (hop:op=if neg then .neq else .eql)
  (hsl:ptr=false→∃e,P.underlying t=some (.slice e)∧v= .slice none 0 0) (hpt:ptr=true→∃e,P.underlying t=some (.pointer e)∧v= .pointer none):
  zaD P w M R z (do eqGuard op t ox oy u v;binOp op t u v):=by
 have slc:∀a n c e,P.underlying t=some (.slice e)→(binOp op t (.slice a n c) (.slice none 0 0)).run P w= .ok (.bool (if neg then !a.isNone else a.isNone)) w:=by
  intro a n c e he
  subst hop
  cases neg
  .simp only[bFt,if_false,binOp];rw[zl (Go.run_equal_slice_nil w t e a n c he)];rfl
  .simp only[if_true,binOp];rw[zl (Go.run_equal_slice_nil w t e a n c he)];rfl
 have ptrr:∀p e,P.underlying t=some (.pointer e)→(binOp op t (.pointer p) (.pointer none)).run P w= .ok (.bool (if neg then !p.isNone else p.isNone)) w:=by
  intro p e he
  have h0:∀d,(Op.equalIn (d+1) t (.pointer p) (.pointer none)).run P w= .ok p.isNone w:=fun d=>run_equalIn_pointer_nil w d t p (by unfold Program.pointee;rw[he])
  have h1:(Op.equal t (.pointer p) (.pointer none)).run P w= .ok p.isNone w:=h0 9999
  subst hop
  cases neg
  .simp only[bFt,if_false,binOp];rw[zl h1];rfl
  .simp only[if_true,binOp];rw[zl h1];rfl
 unfold eqnV at hz
 unfold zaD
 split at hz
 .rename_i b s es
  subst hz
  obtain⟨e,he,rfl⟩:=hsl rfl
  cases hx with
  |isl R nl sz es a cap bb o uu hnl hna hcap ha hsz hc hv=>
   rw[zl (zaJ (.inl ⟨_,_,_,rfl⟩)),slc a _ _ e he,hnl b rfl]
   exact⟨_,rfl,.bool _ _⟩
 .rename_i s e0 es
  subst hz
  obtain⟨e,he,rfl⟩:=hsl rfl
  cases hx with
  |isl R nl sz es a cap bb o uu hnl hna hcap ha hsz hc hv=>
   rw[zl (zaJ (.inl ⟨_,_,_,rfl⟩)),slc a _ _ e he,ha (by simp)]
   cases neg<;>exact⟨_,rfl,.bool _ _⟩
 .subst hz
  obtain⟨e,he,rfl⟩:=hsl rfl
  cases hx with
  |osl R id ver off len g a hg hle ha=>
   rw[zl (zaJ (.inl ⟨_,_,_,rfl⟩)),slc (some a) _ _ e he]
   cases neg<;>exact⟨_,rfl,.bool _ _⟩
 .subst hz
  obtain⟨e,he,rfl⟩:=hpt rfl
  cases hx
  rw[zl (zaJ (.inr (.inl ⟨_,rfl⟩))),ptrr _ e he]
  cases neg<;>exact⟨_,rfl,.bool _ _⟩
 .subst hz
  obtain⟨e,he,rfl⟩:=hpt rfl
  cases hx
  rw[zl (zaJ (.inr (.inl ⟨_,rfl⟩))),ptrr _ e he]
  cases neg<;>exact⟨_,rfl,.bool _ _⟩
 .subst hz
  obtain⟨e,he,rfl⟩:=hpt rfl
  cases hx
  rw[zl (zaJ (.inr (.inl ⟨_,rfl⟩))),ptrr _ e he]
  cases neg<;>exact⟨_,rfl,.bool _ _⟩
 .exact absurd hz.symm hok
end quiet
end Go.Proofs.YtbddckhdbnmamaaGreat
