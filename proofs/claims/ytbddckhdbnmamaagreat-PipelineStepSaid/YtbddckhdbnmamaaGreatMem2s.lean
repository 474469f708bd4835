/-
  More operations: min, make, clear, maps (conditions: none).
-/
import Derived.Laws.MakeOwn
import Derived.Lib.MinMax
import Derived.Lib.AppendZeros
import Derived.Lib.OthersKept
import Derived.Laws.RangeString
import Derived.MapKept
import Derived.ChangeKeysEq
import Derived.Laws.IdiomStrings
import Derived.Laws.CopyRow
import Derived.Laws.IdiomCopy
import Derived.Test.YtbddckhdbnmamaaGreatObjs
namespace Go.Proofs.YtbddckhdbnmamaaGreat
open Go Go.RowKit
set_option linter.unusedVariables false
set_option linter.unusedSimpArgs false
section mem2
variable {P:Program} {C:zbc} {K:Ctx} {w:World} {M:Mut} {R:Res} {H:Heap}
theorem run_cut0 (k1 k2:IntKind) (len cap:Nat):(Instr.sliceBounds true len cap none (some (.int k1 0)) (some (.int k2 0))).run P w= .ok (0,0,0) w:=by
 unfold Instr.sliceBounds
 simp only[pure_bind]
 rw[zl (zaw _ _ _ _ (by omega) (by omega))]
 rw[zl (zaw _ _ _ _ (by omega) (by omega))]
 rfl
theorem q_mn {ts:Array TypeId} {ty:TypeId} {x y z:AV} {u v:Value} (hx:VR w M R x u) (hy:VR w M R y v) (hz:mnV x y=z) (hok:z≠.bad):zaD P w M R z (Builtin.min_ ts ty #[u,v]):=by
 unfold mnV at hz
 split at hz
 .rename_i k a k' b
  split at hz
  .cases hx;cases hy
   subst hz
   refine⟨_,Go.Lib.run_min_ints w ts ty k k' a b,?_⟩
   have e:min a b=if b<a then b else a:=by rw[Int.min_def];split<;>split<;>omega
   rw[e];exact .int _ _ _
  .exact absurd hz.symm hok
 .exact absurd hz.symm hok
theorem q_mx {ts:Array TypeId} {ty:TypeId} {x y z:AV} {u v:Value} (hx:VR w M R x u) (hy:VR w M R y v) (hz:mxV x y=z) (hok:z≠.bad):zaD P w M R z (Builtin.max_ ts ty #[u,v]):=by
 unfold mxV at hz
 split at hz
 .rename_i k a k' b
  split at hz
  .cases hx;cases hy
   subst hz
   refine⟨_,Go.Lib.run_max_ints w ts ty k k' a b,?_⟩
   have e:max a b=if a<b then b else a:=by rw[Int.max_def];split<;>split<;>omega
   rw[e];exact .int _ _ _
  .exact absurd hz.symm hok
 .exact absurd hz.symm hok
theorem zyp {ts:Array TypeId} {ty:TypeId} {x y x3 z:AV} {u v u3:Value} (hx:VR w M R x u) (hy:VR w M R y v) (hx3:VR w M R x3 u3) (hz:mxV (mxV x y) x3=z) (hok:z≠.bad):zaD P w M R z (Builtin.max_ ts ty #[u,v,u3]):=by
 unfold mxV at hz
 split at hz
 .rename_i k a k' b he
  split at he
  .split at he
   .rename_i k1 a1 k2 b1 hk
    cases he
    split at hz
    .cases hx;cases hy;cases hx3
     subst hz
     refine⟨_,?_,.int _ _ _⟩
     simp[Builtin.max_,Builtin.max2]
    .exact absurd hz.symm hok
   .cases he
  .cases he
 .exact absurd hz.symm hok
theorem ER.rep {sz n:Nat} {zv:Value} (hzl:(ofV zv).cells.length=sz) {c:Array Value} (hs:c.size=n* sz) (hc:∀i j,i<n→j<sz→c[i* sz+j]?=zv.cells[j]?):ER w M R sz (List.replicate n (ofV zv)) c:=by
 obtain⟨zc1,zc2⟩:=zib (w:=w) (M:=M) (R:=R) zv
 refine⟨by simp[hs],?_,?_⟩
 .intro i e he
  rw[List.getElem?_replicate]at he
  split at he
  .cases he;exact hzl
  .cases he
 .intro i e j x u he hj hu
  rw[List.getElem?_replicate]at he
  split at he
  .rename_i hil
   cases he
   have hjl:j<sz:=by rw[←hzl];exact (gEs.1 hj).1
   rw[hc i j hil hjl]at hu
   exact zc2 j x u hj hu
  .cases he
theorem zjr {z:Array Value} {sz n:Nat} (hz:z.size=sz) {i j:Nat} (hi:i<n) (hj:j<sz):((Array.range (n* sz)).map (z[· % z.size]!))[i* sz+j]?=z[j]?:=by
 have hk:i* sz+j<n* sz:=by
  have:=Nat.mul_le_mul_right sz (show i+1≤n by omega)
  rw[Nat.add_mul]at this;omega
 have hmod:(i* sz+j) % z.size=j:=by rw[hz,Nat.mul_comm,Nat.mul_add_mod,Nat.mod_eq_of_lt hj]
 rw[Array.getElem?_map,Array.getElem?_range,if_pos hk]
 simp only[oMs,hmod]
 rw[getElem!_pos _ _ (by omega),Array.getElem?_eq_getElem]
theorem zxs (h:WR C K w M R H) {t e:TypeId} {sz:Nat} {i:TypeInfo} {zv:Value} {x y z:AV} {u v:Value} {H':Heap} (hx:VR w M R x u) (hy:VR w M R y v) (he:ex H (.mksl sz (ofV zv)) [x,y]=some (z,H'))
  (ht:P.underlying t=some (.slice e)) (hi:P.info? e=some i) (hz:i.zero=some zv) (hs:i.size=sz) (hb:i.bytes≤65536):Eff C K P w M R z H' id (Instr.makeSlice t u v):=by
 cases x<;>cases y<;>simp only[ex]at he<;>try cases he
 rename_i k n k' m
 split at he
 .rename_i hc
  obtain⟨c1,c2,c3,c4⟩:=hc
  cases he
  cases hx;cases hy
  subst c2
  have hbytes:(i.bytes:Int)* n≤281474976710656:=by
   have h1:(i.bytes:Int)* n≤65536* n:=Int.mul_le_mul_of_nonneg_right (by omega) c1
   omega
  have hcells:n.toNat* i.size≤n.toNat* i.size:=Nat.le_refl _
  have hrun:=run_make (P:=P) w t e i zv ht hi hz k k' n n c1 (Int.le_refl _) hbytes (by omega)
  rw[hs]at hrun
  have hz0:zv.cells.size=sz:=by
   obtain⟨zc1,_⟩:=zib (w:=w) (M:=M) (R:=R) zv
   omega
  have er:=ER.rep (w:=w) (M:=M) (R:=R) (n:=n.toNat) c4 (c:=madeCells zv.cells (n.toNat* sz)) (size_madeCells _ _) (fun a b ha hb=>zjr hz0 ha hb)
  obtain⟨g1,g2⟩:=h.new (madeCells zv.cells (n.toNat* sz)) e (List.replicate n.toNat (ofV zv)) sz n.toNat (size_madeCells _ _) (by simp) er.2.1 er.2.2
  refine⟨_,_,_,_,hrun,?_,g1,g2⟩
  have key:=VR.osl (w:=w.alloc (.cells (madeCells zv.cells (n.toNat* sz)) e)) (M:=zaj M w.heap.size) (zP R H.length ⟨sz,w.heap.size,n.toNat,0⟩) H.length 0 0 n.toNat ⟨sz,w.heap.size,n.toNat,0⟩ ⟨w.heap.size,0,none⟩ (by simp[zP]) (by simp) (by simp)
  simpa using key
 .cases he
theorem zvD (h:WR C K w M R H) {t e:TypeId} {tg sz:Nat} {i:TypeInfo} {zv:Value} {x y z:AV} {u v:Value} {H':Heap} (hx:VR w M R x u) (hy:VR w M R y v) (he:ex H (.mkslH tg sz (ofV zv)) [x,y]=some (z,H'))
  (ht:P.underlying t=some (.slice e)) (hi:P.info? e=some i) (hz:i.zero=some zv) (hs:i.size=sz) (hb:i.bytes≤65536):Eff C K P w M R z H' id (Instr.makeSlice t u v):=by
 cases x<;>cases y<;>simp only[ex]at he<;>try cases he
 rename_i k n k' m
 split at he
 .rename_i n0 hfind
  split at he
  .rename_i hc
   obtain⟨c1,c2,c3,c4⟩:=hc
   cases he
   cases hx;cases hy
   subst c2
   have hbytes:(i.bytes:Int)* n≤281474976710656:=by
    have h1:(i.bytes:Int)* n≤65536* n:=Int.mul_le_mul_of_nonneg_right (by omega) c1
    omega
   have hcells:n.toNat* i.size≤n.toNat* i.size:=Nat.le_refl _
   have hrun:=run_make (P:=P) w t e i zv ht hi hz k k' n n c1 (Int.le_refl _) hbytes (by omega)
   rw[hs]at hrun
   have hz0:zv.cells.size=sz:=by
    obtain⟨zc1,_⟩:=zib (w:=w) (M:=M) (R:=R) zv
    omega
   have er:=ER.rep (w:=w.alloc (.cells (madeCells zv.cells (n.toNat* sz)) e)) (M:=zaj M w.heap.size) (R:=zS R n0 ⟨sz,w.heap.size,n.toNat,0⟩) (n:=n.toNat) c4 (c:=madeCells zv.cells (n.toNat* sz)) (size_madeCells _ _) (fun a b ha hb=>zjr hz0 ha hb)
   obtain⟨g1,g2⟩:=h.fillBlk (.cells (madeCells zv.cells (n.toNat* sz)) e) (.arr 0 sz false (List.replicate n.toNat (ofV zv))) ⟨sz,w.heap.size,n.toNat,0⟩ (zR hfind) rfl rfl ⟨⟨sz,w.heap.size,n.toNat,0⟩,madeCells zv.cells (n.toNat* sz),e,by simp[zS,Blk.ver],fun v hv=>by unfold zS;rw[if_pos rfl,if_neg (by omega)],rfl,zW w _,by simpa using size_madeCells zv.cells (n.toNat* sz),by simp,er.2.1,
    fun i e j x u a b d=>er.2.2 i e j x u a b (by simpa using d),fun _ _=> .inr rfl,fun _ _=> .inr rfl⟩
   refine⟨_,_,_,_,hrun,?_,g1,g2⟩
   have key:=VR.osl (w:=w.alloc (.cells (madeCells zv.cells (n.toNat* sz)) e)) (M:=zaj M w.heap.size) (zS R n0 ⟨sz,w.heap.size,n.toNat,0⟩) n0 0 0 n.toNat ⟨sz,w.heap.size,n.toNat,0⟩ ⟨w.heap.size,0,none⟩ (by simp[zS]) (by simp) (by simp)
   simpa using key
  .cases he
 .cases he
theorem WR.newH (h:WR C K w M R H) (c:Array Value) (t:TypeId) (es:List AV) (sz cap n tg:Nat) (hn:zk tg H=some n) (hs:c.size=cap* sz) (hl:es.length≤cap)
  (hes:∀(i:Nat) (e:AV),es[i]?=some e→(AV.cells e).length=sz)
  (hv:∀(i:Nat) (e:AV) (j:Nat) (x:AV) (u:Value),es[i]?=some e→(AV.cells e)[j]?=some x→c[i* sz+j]?=some u→VR w M R x u):
  WR C K (w.alloc (.cells c t)) (zaj M w.heap.size) (zS R n ⟨sz,w.heap.size,cap,0⟩) (H.set n (.arr 0 sz false es))∧
   Evol R M w (zS R n ⟨sz,w.heap.size,cap,0⟩) (zaj M w.heap.size) (w.alloc (.cells c t)):=by
 have hno:∀v,R n v=none:=h.heap.blk n _ (zR hn)
 have hev:Evol R M w (zS R n ⟨sz,w.heap.size,cap,0⟩) (zaj M w.heap.size) (w.alloc (.cells c t)):=by
  refine⟨by show w.heap.size≤(w.heap.push _).size;simp,fun b o' v hc' _=>?_,fun id ver g' hg=>?_,fun b o' hb hm=>?_,fun b es cl h1 _=>(Below.heap_alloc _ _ _ (aEs.1 h1).1).trans h1,fun b im c0 s0 d0 h1 _=>(Below.heap_alloc _ _ _ (aEs.1 h1).1).trans h1⟩
  .rw[zY (Below.heap_alloc _ _ _ (zbq hc'))];exact hc'
  .unfold zS
   rw[if_neg (fun e=>by subst e;rw[hno]at hg;cases hg)];exact hg
  .rcases hm with hm|hm
   .exact hm
   .omega
 exact h.fillBlk (.cells c t) (.arr 0 sz false es) ⟨sz,w.heap.size,cap,0⟩ (zR hn) rfl rfl ⟨⟨sz,w.heap.size,cap,0⟩,c,t,by simp[zS,Blk.ver],fun v hv=>by unfold zS;rw[if_pos rfl,if_neg (by omega)],rfl,zW w _,by simpa using hs,hl,hes,
  fun i e j x u a b d=>(hv i e j x u a b (by simpa using d)).evol hev,fun _ _=> .inr rfl,fun _ _=> .inr rfl⟩
theorem zvE (h:WR C K w M R H) {t:TypeId} {z:AV} {H':Heap} (he:ex H .mkmap []=some (z,H')):Eff C K P w M R z H' id (Instr.makeMap t none):=by
 simp only[ex]at he
 cases he
 obtain⟨g1,g2⟩:=h.newBlk (.map #[] 0) (.mp []) ⟨1,w.heap.size,0,0⟩ rfl rfl ⟨⟨1,w.heap.size,0,0⟩,#[],0,by simp[zP],fun v hv=>by simp[zP];omega,zW w _,rfl,.inr rfl,⟨by simp,by simp⟩,by intro i k v e hi;simp at hi⟩
 exact⟨_,_,_,_,rfl,.omap _ _ ⟨1,w.heap.size,0,0⟩ (by simp[zP]),g1,g2⟩
theorem zsc (a b:List UInt8):((⟨a.toArray⟩:ByteArray)==⟨b.toArray⟩)=decide (a=b):=by
 show (a.toArray==b.toArray)=_
 rw[zel];simp
theorem zeX {r:Nat} {es:Array MapEntry} {clock:Nat} (hb:w.heap[r]?=some (.map es clock)):(getObj r).run P w= .ok (.map es clock) w:=by simp[getObj,Sem.run,hb]
theorem zwZ (hh:HR C w M R H) {m:AV} {u:Value} {es:List (AV×AV)} (hm:VR w M R m u) (he:zg5 H m=some es):∃b es' clock,u= .map (some b)∧w.heap[b]?=some (.map es' clock)∧es'.size=es.length∧
  ∀(i:Nat) (k v:AV) (e:MapEntry),es[i]?=some (k,v)→es'[i]?=some e→VR w M R k e.key∧VR w M R v e.val:=by
 unfold zg5 at he
 split at he
 .rename_i id
  split at he
  .rename_i es0 hb
   cases he
   obtain⟨g,es',clock,h1,h2,h3,h4,_,_,h5⟩:=hh.blk id _ hb
   cases hm with
   |omap R _ g' hg'=>
    rw[h1]at hg';cases hg'
    exact⟨_,_,_,rfl,h3,h4,h5⟩
  .cases he
 .rename_i ks vs
  cases he
  cases hm with
  |imap R _ _ b es' cl hb hm0 hs hl hbn hnd hk hv=>
   refine⟨b,es',cl,rfl,hb,by rw[hs,List.length_zip,hl];simp,fun i k v e h1 h2=>?_⟩
   obtain⟨h3,h4⟩:=List.getElem?_zip_eq_some.1 h1
   exact⟨(hk i k e h3 h2).noRes_any rfl,(hv i v e h4 h2).noRes_any rfl⟩
 .cases he
def keyQ:TypeDesc→Option Nat| .int _=>some 0| .bool=>some 1| .string=>some 2|_=>none
theorem zbu {d:TypeDesc} {q:Nat} (hq:keyQ d=some q) {kt:TypeId} (hd:P.underlying kt=some d) (k:Value) (e:Bool) (n:Nat):(Instr.checkKey e (n+1) kt k).run P w= .ok () w:=by
 unfold Instr.checkKey
 simp only[Sem.run_bind,run_underlying hd,Result.andThen]
 cases d<;>simp_all [keyQ]
theorem zku {d:TypeDesc} {q:Nat} (hq:keyQ d=some q) {x y:AV} {u v:Value} {b:Bool} (hx:VR w M R x u) (hy:VR w M R y v) (he:zbf q x y=some b):Instr.sameNow d u v=some b∧(b=true→∀n,Instr.sameBits n u v=true):=by
 unfold keyQ at hq
 split at hq
 .cases hq
  cases x<;>try (simp[zbf]at he;done)
  cases y<;>try (simp[zbf]at he;done)
  rename_i k a k' c
  cases hx;cases hy
  simp only[zbf]at he
  split at he
  .rename_i hk
   cases he
   subst hk
   refine⟨by simp[Instr.sameNow,zel],fun hb n=>?_⟩
   have:a=c:=by simpa using hb
   subst this
   cases n<;>simp[Instr.sameBits]
  .cases he
 .cases hq
  cases x<;>try (simp[zbf]at he;done)
  cases y<;>try (simp[zbf]at he;done)
  cases hx;cases hy
  cases he
  refine⟨rfl,fun hb n=>?_⟩
  cases n<;>simpa[Instr.sameBits]using hb
 .cases hq
  cases x<;>try (simp[zbf]at he;done)
  cases y<;>try (simp[zbf]at he;done)
  rename_i a c
  cases hx;cases hy
  cases he
  have e1:((⟨a.toArray⟩:ByteArray)==⟨c.toArray⟩)=decide (a=c):=zsc a c
  refine⟨by simp only[Instr.sameNow,e1],fun hb n=>?_⟩
  cases n<;>simp only[Instr.sameBits,e1]<;>exact hb
 .cases hq
theorem zlb {d:TypeDesc} {q:Nat} (hq:keyQ d=some q) {k:AV} {kv:Value} (hk:VR w M R k kv):∀(es:List (AV×AV)) (es':List MapEntry) (i:Nat) (r:Option (Nat×AV)),es'.length=es.length→
  (∀(i:Nat) (a b:AV) (e:MapEntry),es[i]?=some (a,b)→es'[i]?=some e→VR w M R a e.key∧VR w M R b e.val)→zcR q k es i=some r→
  (r=none∧Instr.findNow d kv es' i=some none)∨∃j a b e,r=some (i+j,b)∧es[j]?=some (a,b)∧es'[j]?=some e∧Instr.findNow d kv es' i=some (some (i+j,e.val))∧Instr.sameBits 10000 e.key kv=true:=by
 intro es
 induction es with
 |nil=>
  intro es' i r hl _ hf
  simp only[zcR,oSi]at hf
  subst hf
  have:es'=[]:=by simpa using hl
  subst this
  exact .inl ⟨rfl,rfl⟩
 |cons e es ih=>
  intro es' i r hl hv hf
  obtain⟨a,b⟩:=e
  match es',hl with
  |e'::es',hl=>
   obtain⟨v1,v2⟩:=hv 0 a b e' rfl rfl
   simp only[zcR]at hf
   cases hc:zbf q k a with
   |none=>simp[hc]at hf
   |some t=>
    have hsym:zbf q a k=some t:=by
     unfold zbf at hc⊢
     split at hc
     .split at hc
      .rename_i hkk
       subst hkk
       cases hc
       simp[eq_comm]
      .cases hc
     .cases hc;simp[Bool.beq_comm]
     .cases hc;simp[eq_comm]
     .cases hc
    obtain⟨s1,s2⟩:=zku hq hk v1 hc
    obtain⟨_,s3⟩:=zku hq v1 hk hsym
    cases t with
    |true=>
     simp only[hc,oSi]at hf
     subst hf
     exact .inr ⟨0,a,b,e',rfl,rfl,rfl,by simp[Instr.findNow,s1],s3 rfl _⟩
    |false=>
     simp only[hc]at hf
     rcases ih es' (i+1) r (by simpa using hl) (fun j x y e hj he=>hv (j+1) x y e (by simpa using hj) (by simpa using he)) hf with⟨h1,h2⟩|⟨j,x,y,e,h1,h2,h3,h4,h5⟩
     .exact .inl ⟨h1,by simp[Instr.findNow,s1,h2]⟩
     .have e1:i+1+j=i+(j+1):=by omega
      rw[e1]at h1 h4
      exact .inr ⟨j+1,x,y,e,h1,by simpa using h2,by simpa using h3,by simp[Instr.findNow,s1,h4],h5⟩
theorem zwG (hh:HR C w M R H) {t kt et:TypeId} {d:TypeDesc} {q:Nat} {ok:Bool} {zv:Value} {m k z:AV} {u v:Value} (hm:VR w M R m u) (hk:VR w M R k v) (hz:zg4 H q ok (ofV zv) m k=z) (hok:z≠.bad)
  (ht:P.underlying t=some (.map kt et)) (hd:P.underlying kt=some d) (hq:keyQ d=some q) (hzero:zdo P et=some zv):zaD P w M R z (Instr.lookup t u v ok):=by
 unfold zg4 at hz
 split at hz
 .rename_i es hmo
  obtain⟨b0,es',clock,rfl,h3,h4,h5⟩:=zwZ hh hm hmo
  split at hz
  .skip
   .skip
    .skip
     cases hf:zcR q k es 0 with
     |none=>simp only[hf]at hz;exact absurd hz.symm hok
     |some r=>
      have hrun:∀(a:Option (Nat×Value)),Instr.findNow d v es'.toList 0=some a→(Instr.lookup t (.map (some b0)) v ok).run P w=((match a with|some (_,v)=>pure (v,true)|none=>do pure (←zeroValue et,false):Sem (Value×Bool))>>=fun p=>pure (if ok then .tuple #[p.1,.bool p.2] else p.1)).run P w:=by
       intro a ha
       unfold Instr.lookup
       simp only[Sem.run_bind,run_underlying ht,Result.andThen,zeX h3,zbu hq hd,Go.MapKept.run_findKey hd ha]
       simp only[Sem.run_pure,Result.andThen,zbu hq hd,Go.MapKept.run_findKey hd ha,Sem.run_bind,zeX h3]
       cases a with
       |some p=>obtain⟨i0,v0⟩:=p;rfl
       |none=>
        simp only[Sem.run_bind]
        cases (zeroValue et).run P w<;>rfl
      rcases zlb hq hk es es'.toList 0 r (by simpa using h4) (fun i a b e hi he=>h5 i a b e hi (by simpa using he)) hf with⟨rfl,f2⟩|⟨j,a,b,e,rfl,f1,f2,f3,_⟩
      .have:=hrun none f2
       simp only[hf]at hz
       refine⟨_,by rw[this];simp only[Sem.run_bind,zaI hzero,Result.andThen,Sem.run_pure];rfl,?_⟩
       subst hz
       cases ok
       .simp only[bFt,if_false];exact VR.ofV _ _ _ _
       .simp only[if_true]
        exact .tuple _ _ _ rfl fun j c u hj hu=>by
         match j,hj,hu with
         |0,hj,hu=>simp at hj hu;subst hj;subst hu;exact VR.ofV _ _ _ _
         |1,hj,hu=>simp at hj hu;subst hj;subst hu;exact .bool _ _
         |j+2,hj,hu=>simp at hj
      .have:=hrun _ f3
       simp only[hf]at hz
       have hv:=(h5 j a b e f1 (by simpa using f2)).2
       refine⟨_,by rw[this];simp only[Sem.run_bind,Result.andThen,Sem.run_pure];rfl,?_⟩
       subst hz
       cases ok
       .simp only[bFt,if_false];exact hv
       .simp only[if_true]
        exact .tuple _ _ _ rfl fun j c u hj hu=>by
         match j,hj,hu with
         |0,hj,hu=>simp at hj hu;subst hj;subst hu;exact hv
         |1,hj,hu=>simp at hj hu;subst hj;subst hu;exact .bool _ _
         |j+2,hj,hu=>simp at hj
  .exact absurd hz.symm hok
 .exact absurd hz.symm hok
theorem WR.putMap (h:WR C K w M R H) {id:Nat} {es es2:List (AV×AV)} {g:Own} {a a':Array MapEntry} {clock clock':Nat} (hb:H[id]?=some (.mp es)) (hg:R id 0=some g) (hr:w.heap[g.blk]?=some (.map a clock))
  (hl:a'.size=es2.length) (hbn:(∀x∈a'.toList,x.born<clock')∧(a'.toList.map (·.born)).Nodup) (hv:∀(i:Nat) (k v:AV) (e:MapEntry),es2[i]?=some (k,v)→a'[i]?=some e→VR w M R k e.key∧VR w M R v e.val):
  WR C K (w.putObj g.blk (.map a' clock')) M R (H.set id (.mp es2))∧Evol R M w R M (w.putObj g.blk (.map a' clock')):=by
 have he:Evol R M w R M (w.putObj g.blk (.map a' clock')):=zci hr (by intro c t f e;cases e) (.inr (by
  obtain⟨g0,es0,c0,k1,k2,k3,k4,kM,k5⟩:=h.heap.blk id _ hb
  rw[hg]at k1;cases k1
  exact kM))
 have hid:id<H.length:=(gEs.1 hb).1
 obtain⟨g0,es0,c0,k1,k2,k3,k4,kM,k5⟩:=h.heap.blk id _ hb
 rw[hg]at k1;cases k1
 have hlt:g.blk<w.heap.size:=(aEs.1 hr).1
 refine⟨⟨⟨?_,?_,?_⟩,fun p hp=>(h.pins p hp).evol he,h.below.trans (zb1 _ (h.base id 0 g hg)),h.base,h.sub,Nat.le_trans h.le he.size,fun k hk=>?_,h.nodup⟩,he⟩
 .intro i B hi
  by_cases hii:i=id
  .subst hii
   rw[gEt hid]at hi
   cases hi
   exact⟨g,a',clock',hg,k2,World.putObj_heap_same hlt,hl,kM,hbn,fun i k v e h1 h2=>⟨(hv i k v e h1 h2).1.evol he,(hv i k v e h1 h2).2.evol he⟩⟩
  .rw[gEn (fun e=>hii e.symm)]at hi
   refine (h.heap.blk i B hi).keep he (fun _=>rfl) (fun g' hg'=>World.putObj_heap_other (fun e=>hii ?_)) (fun _ _ _ hm=>hm)
   exact h.heap.inj i id B _ g' g hi hb hg' hg e
 .intro i v g' hi
  rw[List.length_set];exact h.heap.dom i v g' hi
 .intro i j Bi Bj gi gj hi hj hgi hgj hbb
  have old:∀(k:Nat) (B:Blk) (g':Own),(H.set id (.mp es2))[k]?=some B→R k B.ver=some g'→∃B':Blk,H[k]?=some B'∧R k B'.ver=some g':=by
   intro k B g' hk hg'
   by_cases hkk:k=id
   .subst hkk
    rw[gEt hid]at hk
    cases hk
    exact⟨_,hb,hg'⟩
   .rw[gEn (fun e=>hkk e.symm)]at hk
    exact⟨B,hk,hg'⟩
  obtain⟨Bi',a1,a2⟩:=old i Bi gi hi hgi
  obtain⟨Bj',b1,b2⟩:=old j Bj gj hj hgj
  exact h.heap.inj i j Bi' Bj' gi gj a1 b1 a2 b2 hbb
 .obtain⟨q1,q2⟩:=h.marks k hk
  refine⟨?_,q2⟩
  rw[World.putObj_heap_other (fun e=>by subst e;rw[hr]at q1;cases q1)]
  exact q1
theorem WR.putSit (h:WR C K w M R H) {id:Nat} {st:List UInt8} {p p':Nat} {g:Own} (hb:H[id]?=some (.sit st p)) (hg:R id 0=some g) (hr:w.heap[g.blk]?=some (.stringIter ⟨st.toArray⟩ p)):
  WR C K (w.putObj g.blk (.stringIter ⟨st.toArray⟩ p')) M R (H.set id (.sit st p'))∧Evol R M w R M (w.putObj g.blk (.stringIter ⟨st.toArray⟩ p')):=by
 have he:Evol R M w R M (w.putObj g.blk (.stringIter ⟨st.toArray⟩ p')):=zci hr (by intro c t f e;cases e) (.inl ⟨(by intro es cl e;cases e),(by intro m c s d e;cases e)⟩)
 have hid:id<H.length:=(gEs.1 hb).1
 obtain⟨g0,k1,k2,k3⟩:=h.heap.blk id _ hb
 rw[hg]at k1;cases k1
 have hlt:g.blk<w.heap.size:=(aEs.1 hr).1
 refine⟨⟨⟨?_,?_,?_⟩,fun p hp=>(h.pins p hp).evol he,h.below.trans (zb1 _ (h.base id 0 g hg)),h.base,h.sub,Nat.le_trans h.le he.size,fun k hk=>?_,h.nodup⟩,he⟩
 .intro i B hi
  by_cases hii:i=id
  .subst hii
   rw[gEt hid]at hi
   cases hi
   exact⟨g,hg,k2,World.putObj_heap_same hlt⟩
  .rw[gEn (fun e=>hii e.symm)]at hi
   refine (h.heap.blk i B hi).keep he (fun _=>rfl) (fun g' hg'=>World.putObj_heap_other (fun e=>hii ?_)) (fun _ _ _ hm=>hm)
   exact h.heap.inj i id B _ g' g hi hb hg' hg e
 .intro i v g' hi
  rw[List.length_set];exact h.heap.dom i v g' hi
 .intro i j Bi Bj gi gj hi hj hgi hgj hbb
  have old:∀(k:Nat) (B:Blk) (g':Own),(H.set id (.sit st p'))[k]?=some B→R k B.ver=some g'→∃B':Blk,H[k]?=some B'∧R k B'.ver=some g':=by
   intro k B g' hk hg'
   by_cases hkk:k=id
   .subst hkk
    rw[gEt hid]at hk
    cases hk
    exact⟨_,hb,hg'⟩
   .rw[gEn (fun e=>hkk e.symm)]at hk
    exact⟨B,hk,hg'⟩
  obtain⟨Bi',a1,a2⟩:=old i Bi gi hi hgi
  obtain⟨Bj',b1,b2⟩:=old j Bj gj hj hgj
  exact h.heap.inj i j Bi' Bj' gi gj a1 b1 a2 b2 hbb
 .obtain⟨q1,q2⟩:=h.marks k hk
  refine⟨?_,q2⟩
  rw[World.putObj_heap_other (fun e=>by subst e;rw[hr]at q1;cases q1)]
  exact q1
theorem zgg {id ver ver':Nat} {g:Own} (hmax:∀v,ver<v→R id v=none) (hlt:ver<ver'):∀i v g',R i v=some g'→zq R id ver' g i v=some g':=by
 intro i v g' h
 unfold zq
 split
 .rename_i hc
  obtain⟨rfl,rfl⟩:=hc
  rw[hmax _ hlt]at h;cases h
 .exact h
theorem WR.setB (h:WR C K w M R H) {id:Nat} {B B':Blk} {g g1:Own} {c c':Array Value} {t:TypeId} (hb:H[id]?=some B) (hg:R id B.ver=some g) (hmax:∀v,B.ver<v→R id v=none) (hw:w.heap[g.blk]?=some (.cells c t (0,0))) (hM:∀o,M g.blk o)
  (hver:B.ver<B'.ver) (hb1:g1.blk=g.blk) (hB':∀w',w'=w.setRow g.blk c'→w'.heap[g.blk]?=some (.cells c' t (0,0))→BlkR C w' M (zq R id B'.ver g1) id B'):
  WR C K (w.setRow g.blk c') M (zq R id B'.ver g1) (H.set id B')∧Evol R M w (zq R id B'.ver g1) M (w.setRow g.blk c'):=by
 have hid:id<H.length:=(gEs.1 hb).1
 have he:Evol R M w (zq R id B'.ver g1) M (w.setRow g.blk c'):=by
  refine⟨by simp,fun b o v hc hm=>?_,zgg hmax hver,fun _ _ _ h=>h,fun b es cl h1 _=>(setRow_other w g.blk b c' (fun e=>by subst e;rw[hw]at h1;cases h1)).trans h1,fun b im c0 s0 d0 h1 _=>(setRow_other w g.blk b c' (fun e=>by subst e;rw[hw]at h1;cases h1)).trans h1⟩
  by_cases hbb:b=g.blk
  .subst hbb;exact absurd (hM o) hm
  .rw[cell_setRow_other w g.blk c' _ hbb];exact hc
 have hbelow:Below K.base w (w.setRow g.blk c'):=⟨rfl,rfl,rfl,by simp,fun k hk=>setRow_other w g.blk k c' (by have:=h.base id _ g hg;omega)⟩
 refine⟨⟨⟨?_,?_,?_⟩,fun p hp=>(h.pins p hp).evol he,h.below.trans hbelow,?_,h.sub,by simpa using h.le,fun r hr=>⟨(setRow_other w g.blk r c' (fun e=>by subst e;rw[(h.marks _ hr).1]at hw;cases hw)).trans (h.marks r hr).1,(h.marks r hr).2⟩,h.nodup⟩,he⟩
 .intro i B2 hi
  by_cases hii:i=id
  .subst hii
   rw[gEt hid]at hi
   cases hi
   exact hB' _ rfl (setRow_heap w g.blk c c' t (0,0) hw)
  .rw[gEn (fun e=>hii e.symm)]at hi
   refine (h.heap.blk i B2 hi).keep he (fun v=>by unfold zq;rw[if_neg (fun hc=>hii hc.1)]) (fun g' hg'=>?_) (fun _ _ _ hm=>hm)
   refine setRow_other w g.blk g'.blk c' (fun e=>hii ?_)
   exact h.heap.inj i id B2 _ g' g hi hb hg' hg e
 .intro i v g' hi
  unfold zq at hi
  rw[List.length_set]
  split at hi
  .rename_i hc;rw[hc.1];exact hid
  .exact h.heap.dom i v g' hi
 .intro i j Bi Bj gi gj hi hj hgi hgj hbb
  have old:∀k B2 g',(H.set id B')[k]?=some B2→zq R id B'.ver g1 k B2.ver=some g'→∃B3 g2,H[k]?=some B3∧R k B3.ver=some g2∧g2.blk=g'.blk:=by
   intro k B2 g' hk hg'
   by_cases hkk:k=id
   .subst hkk
    rw[gEt hid]at hk
    cases hk
    simp[zq]at hg'
    subst hg'
    exact⟨_,_,hb,hg,hb1.symm⟩
   .rw[gEn (fun e=>hkk e.symm)]at hk
    unfold zq at hg'
    rw[if_neg (fun hc=>hkk hc.1)]at hg'
    exact⟨B2,_,hk,hg',rfl⟩
  obtain⟨Bi',gi',a1,a2,a3⟩:=old i Bi gi hi hgi
  obtain⟨Bj',gj',b1,b2,b3⟩:=old j Bj gj hj hgj
  exact h.heap.inj i j Bi' Bj' gi' gj' a1 b1 a2 b2 (by rw[a3,b3];exact hbb)
 .intro i v g' hi
  unfold zq at hi
  split at hi
  .cases hi;rw[hb1];exact h.base id _ g hg
  .exact h.base i v g' hi
theorem WR.moveB (h:WR C K w M R H) {id:Nat} {B B':Blk} {g1:Own} {o:Obj} (hb:H[id]?=some B) (hmax:∀v,B.ver<v→R id v=none) (hver:B.ver<B'.ver) (hb1:g1.blk=w.heap.size)
  (hB':BlkR C (w.alloc o) (zaj M w.heap.size) (zq R id B'.ver g1) id B'):
  WR C K (w.alloc o) (zaj M w.heap.size) (zq R id B'.ver g1) (H.set id B')∧Evol R M w (zq R id B'.ver g1) (zaj M w.heap.size) (w.alloc o):=by
 have hid:id<H.length:=(gEs.1 hb).1
 have he:Evol R M w (zq R id B'.ver g1) (zaj M w.heap.size) (w.alloc o):=by
  refine⟨by show w.heap.size≤(w.heap.push _).size;simp,fun b o v hc _=>?_,zgg hmax hver,fun b o hlt hm=>?_,fun b es cl h1 _=>(Below.heap_alloc _ _ _ (aEs.1 h1).1).trans h1,fun b im c0 s0 d0 h1 _=>(Below.heap_alloc _ _ _ (aEs.1 h1).1).trans h1⟩
  .rw[zY (Below.heap_alloc _ _ _ (zbq hc))];exact hc
  .rcases hm with hm|hm
   .exact hm
   .omega
 refine⟨⟨⟨?_,?_,?_⟩,fun p hp=>(h.pins p hp).evol he,h.below.trans ((Below.refl _ w).alloc h.le _),?_,?_,?_,fun r hr=>h.mark_alloc _ hr,h.nodup⟩,he⟩
 .intro i B2 hi
  by_cases hii:i=id
  .subst hii
   rw[gEt hid]at hi
   cases hi
   exact hB'
  .rw[gEn (fun e=>hii e.symm)]at hi
   refine (h.heap.blk i B2 hi).keep he (fun v=>by unfold zq;rw[if_neg (fun hc=>hii hc.1)]) (fun g' hg'=>?_) (fun _ _ _ hm=> .inl hm)
   obtain⟨g'',h1,h2,_⟩:=h.heap.place hi hg'
   rw[hg']at h1;cases h1
   exact Below.heap_alloc _ _ _ h2
 .intro i v g' hi
  unfold zq at hi
  rw[List.length_set]
  split at hi
  .rename_i hc;rw[hc.1];exact hid
  .exact h.heap.dom i v g' hi
 .intro i j Bi Bj gi gj hi hj hgi hgj hbb
  have old:∀k B2 g',(H.set id B')[k]?=some B2→zq R id B'.ver g1 k B2.ver=some g'→(k=id∧g'.blk=w.heap.size)∨(H[k]?=some B2∧R k B2.ver=some g'∧g'.blk<w.heap.size):=by
   intro k B2 g' hk hg'
   by_cases hkk:k=id
   .subst hkk
    rw[gEt hid]at hk
    cases hk
    simp[zq]at hg'
    subst hg'
    exact .inl ⟨rfl,hb1⟩
   .rw[gEn (fun e=>hkk e.symm)]at hk
    unfold zq at hg'
    rw[if_neg (fun hc=>hkk hc.1)]at hg'
    obtain⟨g'',h1,h2,_⟩:=h.heap.place hk hg'
    rw[hg']at h1;cases h1
    exact .inr ⟨hk,hg',h2⟩
  rcases old i Bi gi hi hgi with⟨a1,a2⟩|⟨a1,a2,a3⟩<;>rcases old j Bj gj hj hgj with⟨b1,b2⟩|⟨b1,b2,b3⟩
  .omega
  .omega
  .omega
  .exact h.heap.inj i j Bi Bj gi gj a1 b1 a2 b2 hbb
 .intro i v g' hi
  unfold zq at hi
  split at hi
  .cases hi;rw[hb1];exact h.le
  .exact h.base i v g' hi
 .intro b o hb
  have:=h.le
  exact⟨fun hm=>hm.elim (fun hm=>(h.sub b o hb).1 hm) (fun hm=>absurd hm (by omega)),fun hm=> .inl ((h.sub b o hb).2 hm)⟩
 .have:=h.le
  show K.base≤(w.heap.push _).size
  simp;omega
theorem ztu (h:WR C K w M R H) {t tg sz:Nat} {x z:AV} {u:Value} {H':Heap} (hx:VR w M R x u) (he:ex H (.boxH tg sz) [x]=some (z,H')):Eff C K P w M R z H' id (Instr.box t u):=by
 simp only[ex]at he
 split at he
 .rename_i n0 hfind
  split at he
  .rename_i hc
   cases he
   obtain⟨hs,hv⟩:=hx.cr (zbL hc.2)
   have hno:∀v,R n0 v=none:=h.heap.blk n0 _ (zR hfind)
   have hev:Evol R M w (zS R n0 ⟨sz,w.heap.size,1,0⟩) (zaj M w.heap.size) (w.alloc (.cells u.cells t)):=by
    refine⟨by show w.heap.size≤(w.heap.push _).size;simp,fun b o' v hc' _=>?_,fun id ver g' hg=>?_,fun b o' hb hm=>?_,fun b es cl h1 _=>(Below.heap_alloc _ _ _ (aEs.1 h1).1).trans h1,fun b im c0 s0 d0 h1 _=>(Below.heap_alloc _ _ _ (aEs.1 h1).1).trans h1⟩
    .rw[zY (Below.heap_alloc _ _ _ (zbq hc'))];exact hc'
    .unfold zS
     rw[if_neg (fun e=>by subst e;rw[hno]at hg;cases hg)];exact hg
    .rcases hm with hm|hm
     .exact hm
     .omega
   obtain⟨g1,g2⟩:=h.fillBlk (.cells u.cells t) (.arr 0 sz false [x]) ⟨sz,w.heap.size,1,0⟩ (zR hfind) rfl rfl ⟨⟨sz,w.heap.size,1,0⟩,u.cells,t,by simp[zS,Blk.ver],fun v hv=>by simp[zS];omega,rfl,zW w _,(by rw[hs,hc.1];simp),by simp,fun i e hi=>by
     cases i with
     |zero=>simp at hi;subst hi;exact hc.1
     |succ i=>simp at hi,fun i e j y v hi hj hu=>by
     cases i with
     |zero=>simp at hi;subst hi;exact (hv j y v hj (by simpa using hu)).evol hev
     |succ i=>simp at hi,fun _ _=> .inr rfl,fun _ _=> .inr rfl⟩
   refine⟨_,_,_,_,rfl,?_,g1,g2⟩
   have:=VR.optr (w:=w.alloc (.cells u.cells t)) (M:=zaj M w.heap.size) (zS R n0 ⟨sz,w.heap.size,1,0⟩) n0 0 0 0 ⟨sz,w.heap.size,1,0⟩ (by simp[zS])
   simpa using this
  .cases he
 .cases he
theorem zxr (h:WR C K w M R H) {t:TypeId} {x z:AV} {u:Value} {H':Heap} (hx:VR w M R x u) (he:ex H .rngs [x]=some (z,H')) (ht:P.underlying t=some .string):Eff C K P w M R z H' id (Instr.range t u):=by
 cases x<;>simp only[ex]at he<;>try cases he
 cases hx
 rename_i s
 obtain⟨g1,g2⟩:=h.newBlk (.stringIter ⟨s.toArray⟩ 0) (.sit s 0) ⟨1,w.heap.size,0,0⟩ rfl rfl ⟨⟨1,w.heap.size,0,0⟩,by simp[zP],fun v hv=>by simp[zP];omega,zW w _⟩
 exact⟨_,_,_,_,run_range_string w t _ ht,.oit _ _ ⟨1,w.heap.size,0,0⟩ (by simp[zP]),g1,g2⟩
theorem zAW (h:WR C K w M R H) {ty:TypeId} {x z:AV} {u:Value} {H':Heap} (hx:VR w M R x u) (he:ex H .nxt [x]=some (z,H')):Eff C K P w M R z H' id (Instr.next u true ty):=by
 cases x<;>simp only[ex]at he<;>try cases he
 rename_i id
 split at he
 .rename_i s p hb
  obtain⟨g,h1,h2,h3⟩:=h.heap.blk id _ hb
  cases hx with
  |oit R _ g' hg'=>
   rw[h1]at hg';cases hg'
   split at he
   .rename_i hlt
    cases he
    obtain⟨g1,g2⟩:=h.putSit (p':=p+(zdl s p).2) hb h1 h3
    refine⟨_,_,_,_,Lib.run_next_any_at w g.blk ⟨s.toArray⟩ p ty h3 hlt,?_,g1,g2⟩
    refine .tuple _ _ _ rfl fun j c u hc hu=>?_
    match j,hc,hu with
    |0,hc,hu=>simp at hc hu;subst hc;subst hu;exact .bool _ _
    |1,hc,hu=>simp at hc hu;subst hc;subst hu;exact .int _ _ _
    |2,hc,hu=>simp at hc hu;subst hc;subst hu;exact .int _ _ _
    |j+3,hc,hu=>simp at hc
   .rename_i hlt
    cases he
    refine⟨_,w,M,R,Lib.run_next_end_at w g.blk ⟨s.toArray⟩ p ty h3 hlt,?_,h,Evol.refl _ _ _⟩
    refine .tuple _ _ _ rfl fun j c u hc hu=>?_
    match j,hc,hu with
    |0,hc,hu=>simp at hc hu;subst hc;subst hu;exact .bool _ _
    |j+1,hc,hu=>simp at hc
 .cases he
theorem zdm {r:Nat} {es:Array MapEntry} {clock:Nat} {o':Obj} (hb:w.heap[r]?=some (.map es clock)):(setObj r o').run P w= .ok () (w.putObj r o'):=by
 simp[setObj,Sem.run,hb,World.putObj]
theorem ztt (h:WR C K w M R H) {t kt et:TypeId} {d:TypeDesc} {q:Nat} {m k x z:AV} {u v y:Value} {H':Heap} (hm:VR w M R m u) (hk:VR w M R k v) (hx:VR w M R x y) (he:ex H (.mput q) [m,k,x]=some (z,H'))
  (ht:P.underlying t=some (.map kt et)) (hd:P.underlying kt=some d) (hq:keyQ d=some q):Eff C K P w M R z H' (fun _:Unit=>undef) (Instr.mapUpdate t u v y):=by
 simp only[ex]at he
 split at he
 .rename_i id
  split at he
  .rename_i es hb
   split at he
   .obtain⟨g,es',clock,h1,h2,h3,h4,hM0,⟨hb1,hb2⟩,h5⟩:=h.heap.blk id _ hb
    cases hm with
    |omap R _ g' hg'=>
     rw[h1]at hg';cases hg'
     cases hf:zcR q k es 0 with
     |none=>simp[hf]at he
     |some r=>
      simp only[hf]at he
      rcases zlb hq hk es es'.toList 0 r (by simpa using h4) (fun i a b e hi he=>h5 i a b e hi (by simpa using he)) hf with⟨rfl,f2⟩|⟨j,a,b,e,rfl,f1,f2,f3,f4⟩
      .simp only[oSi,pMi]at he
       obtain⟨rfl,rfl⟩:=he
       obtain⟨g1,g2⟩:=h.putMap (a':=es'.push {key:=v,val:=y,born:=clock}) (clock':=clock+1) (es2:=es++[(k,x)]) hb h1 h3 (by simp[h4]) ⟨by
        intro e he
        simp only[Array.toList_push,List.mem_append,lMc,List.not_mem_nil,or_false]at he
        rcases he with he|rfl
        .exact Nat.lt_succ_of_lt (hb1 e he)
        .exact Nat.lt_succ_self _,by
        simp only[Array.toList_push,List.map_append,List.map_cons,List.map_nil]
        refine List.nodup_append.2 ⟨hb2,by simp,?_⟩
        intro a ha b hb'
        simp only[lMc,List.not_mem_nil,or_false]at hb'
        obtain⟨e,he,rfl⟩:=List.mem_map.1 ha
        have:=hb1 e he
        omega⟩ (fun i a b e hi hE=>by
        rw[Array.getElem?_push]at hE
        by_cases hii:i=es'.size
        .rw[if_pos hii]at hE
         cases hE
         rw[hii,h4]at hi
         simp at hi
         obtain⟨rfl,rfl⟩:=hi
         exact⟨hk,hx⟩
        .rw[if_neg hii]at hE
         have hil:i<es.length:=by
          have:=(aEs.1 hE).1
          omega
         rw[gEa hil]at hi
         exact h5 i a b e hi hE)
       refine⟨(),_,_,_,?_,.und _,g1,g2⟩
       unfold Instr.mapUpdate
       simp only[Sem.run_bind,run_underlying ht,Result.andThen,zeX h3,zbu hq hd,Go.MapKept.run_findKey hd f2]
       exact zdm h3
      .simp only[oSi,pMi,Nat.zero_add]at he
       obtain⟨rfl,rfl⟩:=he
       have hj:j<es'.size:=by
        have:=(gEs.1 f2).1
        simpa using this
       have hej:es'[j]?=some e:=by simpa using f2
       obtain⟨g1,g2⟩:=h.putMap (a':=es'.modify j fun e=>{e with key:=v,val:=y}) (clock':=clock) (es2:=es.set j (k,x)) hb h1 h3 (by simp[h4]) (by
        have hborn:(es'.modify j fun e=>{e with key:=v,val:=y}).toList.map (·.born)=es'.toList.map (·.born):=by
         rw[Array.toList_modify]
         apply List.ext_getElem?
         intro i
         simp only[gEm,List.getElem?_modify]
         by_cases hij:j=i
         .subst hij;cases es'.toList[j]?<;>simp
         .cases es'.toList[i]?<;>simp[hij]
        refine⟨?_,by rw[hborn];exact hb2⟩
        intro e he
        have:e.born∈(es'.modify j fun e=>{e with key:=v,val:=y}).toList.map (·.born):=List.mem_map.2 ⟨e,he,rfl⟩
        rw[hborn]at this
        obtain⟨e0,h0,h1⟩:=List.mem_map.1 this
        rw[←h1];exact hb1 e0 h0) (fun i a b e' hi hE=>by
        rw[Array.getElem?_modify]at hE
        by_cases hii:j=i
        .subst hii
         rw[if_pos rfl,hej]at hE
         cases hE
         rw[gEt (by omega)]at hi
         cases hi
         exact⟨hk,hx⟩
        .rw[if_neg hii]at hE
         rw[gEn hii]at hi
         exact h5 i a b e' hi hE)
       refine⟨(),_,_,_,?_,.und _,g1,g2⟩
       have hkeep:(Instr.keyThatStays (((es'[j]?).map (·.key)).getD v) v).run P w= .ok v w:=by
        rw[hej]
        unfold Instr.keyThatStays
        simp only[oMs,Option.getD_some,f4,if_true]
        rfl
       unfold Instr.mapUpdate
       simp only[Nat.zero_add]at f3
       simp only[Sem.run_bind,run_underlying ht,Result.andThen,zeX h3,zbu hq hd,Go.MapKept.run_findKey hd f3,hkeep]
       exact zdm h3
   .cases he
  .cases he
 .cases he
theorem zAY (h:WR C K w M R H) {t e ty:TypeId} {sz:Nat} {zv:Value} {x z:AV} {u:Value} {H':Heap} (hx:VR w M R x u) (he:ex H (.clr sz (ofV zv)) [x]=some (z,H'))
  (ht:P.underlying t=some (.slice e)) (hz:zdo P e=some zv):Eff C K P w M R z H' id (Builtin.clear_ #[t] ty #[u]):=by
 simp only[ex]at he
 split at he
 .rename_i id ver off len
  split at he
  .rename_i ver' s es hb
   split at he
   .rename_i hc
    obtain⟨e1,e2,e3,e4,e5,e6⟩:=hc
    subst e1;subst e2
    cases he
    obtain⟨g,c,t',k1,k2,k3,k4,k5,k6,k7,k8,k9,k10⟩:=h.heap.blk id _ hb
    cases hx with
    |osl R _ _ _ _ g' aa hg' hle haa=>
     rw[k1]at hg';cases hg'
     rw[haa (by omega)]
     obtain⟨zc1,zc2⟩:=zib (w:=w) (M:=M) (R:=R) zv
     have hz0:zv.cells.size=s:=by omega
     let zs:=Builtin.zeroCells zv.cells len
     have hzs:zs.size=len* s:=by rw[show zs.size=len* zv.cells.size from by simp[zs,Builtin.zeroCells],hz0]
     have hzget:∀i j,i<len→j<s→zs[i* s+j]?=zv.cells[j]?:=by
      intro i j hi hj
      have:=zjr (z:=zv.cells) (n:=len) hz0 hi hj
      simp only[zs,Builtin.zeroCells]
      rw[hz0]at this⊢
      exact this
     have hone:∀v∈zs.toList,v.oneCell'=true:=by
      have hc1:∀v∈zv.cells,v.oneCell'=true:=zi1 (VR.ofV w M R zv) (zbL e6) e6
      intro v hv
      obtain⟨k,hk,rfl⟩:=List.mem_iff_getElem.1 hv
      have hk':k<len* s:=by rw[←hzs];simpa using hk
      obtain⟨d1,d2,d3⟩:=zgx hk'
      have h1:=hzget (k/s) (k % s) d1 d2
      rw[d3]at h1
      have h2:zs[k]?=some zs.toList[k]:=by simp
      rw[h2]at h1
      exact hc1 _ (Array.mem_of_getElem? h1.symm)
     have hfit:g.bs+off* s+0+zs.toList.length≤c.size:=by
      rw[k5,Array.length_toList,hzs,Nat.add_zero,Nat.add_assoc,←Nat.add_mul]
      exact Nat.add_le_add_left (Nat.mul_le_mul_right _ (by omega)) _
     have hst:=run_storeCells_at P g.blk (g.bs+off* s) t' zs.toList 0 c w k4 hfit hone
     simp only[Nat.add_zero]at hst hfit
     let c':Array Value:=(c.toList.take (g.bs+off* s)++zs.toList++c.toList.drop (g.bs+off* s+zs.toList.length)).toArray
     have hget:∀k,c'[k]?=if k<g.bs+off* s then c[k]? else if k<g.bs+off* s+len* s then zs[k - (g.bs+off* s)]? else c[k]?:=by
      intro k
      show ((c.toList.take (g.bs+off* s)++zs.toList++c.toList.drop (g.bs+off* s+zs.toList.length)).toArray)[k]?=_
      rw[List.getElem?_toArray,zfj _ _ _ _ (by simpa using hfit),Array.length_toList,hzs]
      simp only[Array.getElem?_toList]
     have hcs':c'.size=c.size:=by
      show ((c.toList.take (g.bs+off* s)++zs.toList++c.toList.drop (g.bs+off* s+zs.toList.length)).toArray).size=_
      simp only[List.size_toArray,List.length_append,List.length_take,List.length_drop,Array.length_toList]
      simp only[Array.length_toList]at hfit
      omega
     have hel:∀(i:Nat),(es.take off++List.replicate len (ofV zv)++es.drop (off+len))[i]?=if i<off then es[i]? else if i<off+len then some (ofV zv) else es[i]?:=by
      intro i
      rcases Nat.lt_or_ge i off with h1|h1
      .rw[if_pos h1,List.append_assoc,gEa (by simp;omega),List.getElem?_take,if_pos h1]
      .rw[if_neg (by omega)]
       rcases Nat.lt_or_ge i (off+len) with h2|h2
       .rw[if_pos h2,gEa (by simp;omega),gEr (by simp;omega),List.getElem?_replicate,if_pos (by simp;omega)]
       .rw[if_neg (by omega),gEr (by simp;omega)]
        simp only[List.length_append,List.length_take,List.length_replicate,List.getElem?_drop]
        congr 1;omega
     obtain⟨r1,r2⟩:=h.set (c':=c') (es':=es.take off++List.replicate len (ofV zv)++es.drop (off+len)) (ver':=ver') hb k1 k4 hcs' (fun o y ho hm=>absurd (k9 rfl o) hm) (.inr ⟨rfl,rfl⟩) rfl k3 k5
      (by simp;omega) (by rw[show (es.take off++List.replicate len (ofV zv)++es.drop (off+len)).length=es.length by simp;omega];exact Nat.le_refl _) (fun i e hi=>by
       rw[hel]at hi
       split at hi
       .exact k7 i e hi
       .split at hi
        .cases hi;exact e5
        .exact k7 i e hi) (fun i e j x q hi hj hq=>by
       rw[hel]at hi
       rw[hget]at hq
       have hjs:∀e',(AV.cells e').length=s→(AV.cells e')[j]?=some x→j<s:=fun e' h1 h2=>by rw[←h1];exact (gEs.1 h2).1
       split at hi
       .rename_i h1
        have hj':=hjs e (k7 i e hi) hj
        have:g.bs+(i* s+j)<g.bs+off* s:=by
         have:=Nat.mul_le_mul_right s (show i+1≤off by omega)
         rw[Nat.add_mul]at this;omega
        rw[if_pos this]at hq
        exact k8 i e j x q hi hj hq
       .rename_i h1
        have hge:off* s≤i* s:=Nat.mul_le_mul_right s (by omega)
        split at hi
        .rename_i h2
         cases hi
         have hj':=hjs _ e5 hj
         have h3:(i - off)* s+j<len* s:=by
          have:=Nat.mul_le_mul_right s (show (i - off)+1≤len by omega)
          rw[Nat.add_mul (i - off)]at this;omega
         have h4:i* s=off* s+(i - off)* s:=by rw[←Nat.add_mul];congr 1;omega
         rw[if_neg (by omega),if_pos (by omega)]at hq
         rw[show g.bs+(i* s+j) - (g.bs+off* s)=(i - off)* s+j by omega,hzget _ _ (by omega) hj']at hq
         exact zc2 j x q hj hq
        .rename_i h2
         have hge2:(off+len)* s≤i* s:=Nat.mul_le_mul_right s (by omega)
         rw[Nat.add_mul]at hge2
         rw[if_neg (by omega),if_neg (by omega)]at hq
         exact k8 i e j x q hi hj hq)
     obtain⟨m,rfl⟩:∃m,len=m+1:=⟨len - 1,by omega⟩
     refine⟨.tuple #[],_,_,_,?_,.tuple _ _ _ rfl (fun j c u hj=>by simp at hj),r1,r2⟩
     have hzv:=zaI (P:=P) hz w
     unfold Builtin.clear_
     simp only[List.getElem?_toArray,gEz]
     simp only[Sem.run_bind,run_underlying ht,Result.andThen,hzv,hst,Sem.run_pure]
     have hst':(storeCells ⟨g.blk,g.bs+off* s,none⟩ (Builtin.zeroCells zv.cells (m+1)).toList 0).run P w= .ok () (w.setRow g.blk c'):=hst
     rw[k3,hst']
   .cases he
  .cases he
 .cases he
/-! ### Memory that is given away for good -/
theorem WR.share (h:WR C K w M R H) {id ver sz:Nat} {sh:Bool} {es:List AV} (hb:H[id]?=some (.arr ver sz sh es)):∃M1,WR C K w M1 R (H.set id (.arr ver sz true es))∧Evol R M w R M1 w∧∀g,R id ver=some g→∀o,g.bs≤o→o<g.bs+es.length* sz→¬M1 g.blk o:=by
 have hid:id<H.length:=(gEs.1 hb).1
 obtain⟨g,c,t,h1,h2,h3,h4,h5,h6,h7,h8,h9,h10⟩:=h.heap.blk id _ hb
 let M1:Mut:=fun b o=>M b o∧¬(b=g.blk∧g.bs≤o∧o<g.bs+es.length* sz)
 have he:Evol R M w R M1 w:=⟨Nat.le_refl _,fun _ _ _ hc _=>hc,fun _ _ _ hg=>hg,fun _ _ _ hm=>hm.1,fun _ _ _ h _=>h,fun _ _ _ _ _ h _=>h⟩
 have old:∀(k:Nat) (B:Blk),(H.set id (.arr ver sz true es))[k]?=some B→∃B':Blk,H[k]?=some B'∧B'.ver=B.ver:=by
  intro k B hk
  by_cases hkk:k=id
  .subst hkk
   rw[gEt hid]at hk
   cases hk
   exact⟨_,hb,rfl⟩
  .rw[gEn (fun e=>hkk e.symm)]at hk
   exact⟨B,hk,rfl⟩
 refine⟨M1,⟨⟨fun k B hk=>?_,fun i v g hi=>?_,fun i j Bi Bj gi gj hi hj hgi hgj hbb=>?_⟩,fun p hp=>(h.pins p hp).evol he,h.below,h.base,fun b o hbo=>?_,h.le,h.marks,h.nodup⟩,he,fun g' hg' o ho0 ho hm=>?_⟩
 .by_cases hkk:k=id
  .subst hkk
   rw[gEt hid]at hk
   cases hk
   exact⟨g,c,t,h1,h2,h3,h4,h5,h6,h7,fun i e j x u a b d=>(h8 i e j x u a b d).evol he,(fun e=>by cases e),fun o ho=>⟨h10 o ho,fun hh=>by omega⟩⟩
  .rw[gEn (fun e=>hkk e.symm)]at hk
   refine (h.heap.blk k B hk).keep he (fun _=>rfl) (fun _ _=>rfl) (fun g' hg' o hm=>⟨hm,fun hh=>hkk ?_⟩)
   exact h.heap.inj k id B _ g' g hk hb hg' h1 hh.1
 .rw[List.length_set];exact h.heap.dom i v g hi
 .obtain⟨Bi',a1,a2⟩:=old i Bi hi
  obtain⟨Bj',b1,b2⟩:=old j Bj hj
  exact h.heap.inj i j Bi' Bj' gi gj a1 b1 (by rw[a2];exact hgi) (by rw[b2];exact hgj) hbb
 .have:=h.base id ver g h1
  exact⟨fun hm=>(h.sub b o hbo).1 hm.1,fun hm=>⟨(h.sub b o hbo).2 hm,fun hh=>by omega⟩⟩
 .rw[h1]at hg';cases hg'
  exact hm.2 ⟨rfl,ho0,ho⟩
theorem znj (h:WR C K w M R H) {x:AV} {u:Value} (hx:VR w M R x u):∃M1,WR C K w M1 R (pub1 H x).2∧Evol R M w R M1 w∧VR w M1 R (pub1 H x).1 u:=by
 have same:∃M1,WR C K w M1 R H∧Evol R M w R M1 w∧VR w M1 R x u:=⟨M,h,Evol.refl _ _ _,hx⟩
 unfold pub1
 split
 .rename_i id ver off len
  split
  .rename_i v' s sh es hb
   split
   .rename_i hc
    obtain⟨c1,c2,c3⟩:=hc
    subst c1
    obtain⟨M1,w1,w2,w3⟩:=h.share hb
    refine⟨M1,w1,w2,?_⟩
    obtain⟨g,c,t,h1,h2,h3,h4,h5,h6,h7,h8,h9,h10⟩:=h.heap.blk id _ hb
    cases hx with
    |osl R _ _ _ _ g' aa hg' hle haa=>
     rw[h1]at hg';cases hg'
     have hin:∀(i:Nat) (e:AV),((es.drop off).take len)[i]?=some e→es[off+i]?=some e∧i<len:=by
      intro i e hi
      rw[List.getElem?_take]at hi
      split at hi
      .rw[List.getElem?_drop]at hi;exact⟨hi,by assumption⟩
      .cases hi
     have hcell:∀(i:Nat) (e:AV) (j:Nat) (x:AV),es[off+i]?=some e→(AV.cells e)[j]?=some x→∃u,c[g.bs+((off+i)* s+j)]?=some u∧VR w M R x u∧(off+i)* s+j<es.length* s:=by
      intro i e j x hi hj
      have hjl:j<s:=by rw[←h7 _ e hi];exact (gEs.1 hj).1
      have hil:=(gEs.1 hi).1
      have hlt:(off+i)* s+j<es.length* s:=by
       have:=Nat.mul_le_mul_right s (show off+i+1≤es.length by omega)
       rw[Nat.add_mul (off+i)]at this;omega
      have hlc:g.bs+((off+i)* s+j)<c.size:=by
       rw[h5];have:=Nat.mul_le_mul_right s h6;omega
      exact⟨c[g.bs+((off+i)* s+j)],Array.getElem?_eq_getElem hlc,h8 _ e j x _ hi hj (Array.getElem?_eq_getElem hlc),hlt⟩
     have hlen:((es.drop off).take len).length=len:=by simp;omega
     have key:=VR.isl (w:=w) (M:=M1) R (some false) s ((es.drop off).take len) (some aa) (g.cap - off) g.blk (g.bs+off* s) (fun i j=>(c[g.bs+((off+i)* s+j)]?).getD undef) (by simp) (by simp) (by rw[hlen];omega) (fun hne=>by rw[haa (by have:0<((es.drop off).take len).length:=List.length_pos_iff.2 hne;omega),h3]) (fun i e hi=>h7 _ e (hin i e hi).1) ?_ ?_
     .rw[hlen]at key;exact key
     .intro i e j x hi hj
      obtain⟨u,q1,q2,q3⟩:=hcell i e j x (hin i e hi).1 hj
      have e1:g.bs+off* s+(i* s+j)=g.bs+((off+i)* s+j):=by rw[Nat.add_mul];omega
      rw[e1]
      refine⟨?_,w3 g h1 _ (by omega) (by omega)⟩
      unfold World.cell?
      rw[h4]
      simp[q1]
     .intro i e j x hi hj
      obtain⟨u,q1,q2,q3⟩:=hcell i e j x (hin i e hi).1 hj
      have hst:=lAt.1 (lAt.1 c3 e (lMg hi)) x (lMg hj)
      simp only[q1,Option.getD_some]
      exact (q2.evol w2).still hst
   .exact same
  .exact same
 .exact same
theorem zkz:∀{xs:List AV} {us:List Value} {H:Heap} {M:Mut},WR C K w M R H→VRs w M R xs us→∃M1,WR C K w M1 R (zd9 H xs).2∧Evol R M w R M1 w∧VRs w M1 R (zd9 H xs).1 us
 | [],us,H,M,h,hx=>by rw[hx.inv_nil];exact⟨M,h,Evol.refl _ _ _,VRs.nil⟩
 |x::xs,us,H,M,h,hx=>by
  obtain⟨u,us',rfl,h1,h2⟩:=hx.inv_cons
  obtain⟨M1,a1,a2,a3⟩:=znj h h1
  obtain⟨M2,b1,b2,b3⟩:=zkz a1 (h2.evol a2)
  exact⟨M2,b1,a2.trans b2,VRs.cons (a3.evol b2) b3⟩
theorem ztW (h:WR C K w M R H) {x:AV} {u:Value} (hx:VR w M R x u):∃M1,WR C K w M1 R (pubA H x).2∧Evol R M w R M1 w∧VR w M1 R (pubA H x).1 u:=by
 unfold pubA
 split
 .rename_i cs
  cases hx with
  |agg R _ vs hs hv=>
   obtain⟨M1,a1,a2,a3⟩:=zkz (us:=vs.toList) h ⟨by simpa using hs,fun j c u hc hu=>hv j c u hc (by simpa using hu)⟩
   exact⟨M1,a1,a2,.agg _ _ _ (by simpa using a3.1) fun j c u hc hu=>a3.2 j c u hc (by simpa using hu)⟩
 .exact znj h hx
theorem zkA:∀{xs:List AV} {us:List Value} {H:Heap} {M:Mut},WR C K w M R H→VRs w M R xs us→∃M1,WR C K w M1 R (zbK H xs).2∧Evol R M w R M1 w∧VRs w M1 R (zbK H xs).1 us
 | [],us,H,M,h,hx=>by rw[hx.inv_nil];exact⟨M,h,Evol.refl _ _ _,VRs.nil⟩
 |x::xs,us,H,M,h,hx=>by
  obtain⟨u,us',rfl,h1,h2⟩:=hx.inv_cons
  obtain⟨M1,a1,a2,a3⟩:=ztW h h1
  obtain⟨M2,b1,b2,b3⟩:=zkA a1 (h2.evol a2)
  exact⟨M2,b1,a2.trans b2,VRs.cons (a3.evol b2) b3⟩
/-! ### Bytes and strings -/
/-! ### Arrays of one-cell elements -/
theorem zfg {d:Nat} {e:TypeId} {q:Nat} (hq:zir P e=some q) {as bs:List AV} {us vs:Array Value} (ha:CR w M R as us) (hb:CR w M R bs vs):∀(n k:Nat) (b:Bool),zcW (List.replicate n q) (as.drop k) (bs.drop k)=some b→
  (Op.eqItems (d+1) e 1 us vs (List.range' k n)).run P w= .ok b w
 |0,k,b,he=>by
  unfold zcW at he
  split at he<;>simp_all [Op.eqItems]
 |n+1,k,b,he=>by
  rw[List.replicate_succ]at he
  unfold zcW at he
  split at he
  .simp at *
  .rename_i q0 qs0 x xs y ys h1 h2 h3
   cases h1
   split at he
   .rename_i b1 b2 e1 e2
    cases he
    have hx:as[k]?=some x:=by
     have:=congrArg (·[0]?) h2
     simpa using this
    have hy:bs[k]?=some y:=by
     have:=congrArg (·[0]?) h3
     simpa using this
    have hkx:k<us.size:=by rw[ha.1];exact (gEs.1 hx).1
    have hky:k<vs.size:=by rw[hb.1];exact (gEs.1 hy).1
    have hxs:as.drop (k+1)=xs:=by rw[←List.tail_drop,h2];rfl
    have hys:bs.drop (k+1)=ys:=by rw[←List.tail_drop,h3];rfl
    rw[List.range'_succ]
    simp only[Op.eqItems,Nat.mul_one]
    rw[zl (zbt hq hkx),zl (zbt hq hky),zl (zcp (ha.2 k x _ hx (Array.getElem?_eq_getElem hkx)) (hb.2 k y _ hy (Array.getElem?_eq_getElem hky)) hq e1)]
    cases b1 with
    |false=>rfl
    |true=>
     simp only[Bool.not_true,bFt,if_false,Bool.true_and]
     exact zfg hq ha hb n (k+1) b2 (by rw[hxs,hys];exact e2)
   .cases he
  .cases he
theorem zne {op:BinOp} {neg:Bool} {t e:TypeId} {n q:Nat} {i:TypeInfo} {ox oy:Operand} {x y z:AV} {u v:Value} (hx:VR w M R x u) (hy:VR w M R y v) (hz:eqsV neg (List.replicate n q) x y=z) (hok:z≠.bad)
  (hop:op=if neg then .neq else .eql) (ht:P.underlying t=some (.array n e)) (hi:P.info? e=some i) (h1:P.cellsOf e=1) (hq:zir P e=some q) (hm:P.eqGuardType P.depth t=false):
  zaD P w M R z (do eqGuard op t ox oy u v;binOp op t u v):=by
 unfold eqsV at hz
 split at hz
 .rename_i a b
  cases hx with
  |agg R _ us hs hv=>
   cases hy with
   |agg R _ vs hs' hv'=>
    split at hz
    .rename_i r hr
     subst hz
     have he:=zfg (P:=P) (w:=w) (d:=9998) hq ⟨hs,hv⟩ ⟨hs',hv'⟩ n 0 r (by simpa using hr)
     have he2:(Op.equalIn 10000 t (.agg us) (.agg vs)).run P w= .ok r w:=by
      rw[show (10000:Nat)=9999+1 from rfl,run_equalIn_array w 9999 us vs ht hi,h1,List.range_eq_range']
      exact he
     unfold zaD
     rw[zl (run_eqGuard_agg w op t ox oy us vs hm)]
     subst hop
     cases neg with
     |false=>exact⟨_,by simp only[bFt,if_false];rw[run_eql_struct,he2];rfl,.bool _ _⟩
     |true=>exact⟨_,by simp only[if_true];rw[run_neq_struct,he2];rfl,.bool _ _⟩
    .exact absurd hz.symm hok
 .exact absurd hz.symm hok
theorem znf {t e:TypeId} {n sz:Nat} {zv:Array Value} {is:List Nat} {xs:List AV} {vs:List Value} {r:AV} (ht:P.underlying t=some (.array n e)) (hz:zdo P t=some (.agg zv)) (hs:szT P e=some sz)
  (hl:is.length=vs.length) (hv:VRs w M R xs vs) (hr:bldV (zv.toList.map ofV1) (is.map fun i=>(i* sz,sz)) xs=r) (hok:r≠.bad):zaD P w M R r (Instr.build t (is.zip vs).toArray):=by
 have hc0:CR w M R (zv.toList.map ofV1) zv:=by
  refine⟨by simp,?_⟩
  intro j x u hj hu
  simp only[gEm,oMe]at hj
  obtain⟨y,hy,rfl⟩:=hj
  rw[Array.getElem?_toList,hu]at hy
  cases hy
  exact VR.ofV1 _ _ _ _
 obtain⟨c',z',e1,e2,e3⟩:=znd (fun i=>some (i* sz,sz)) (is.map fun i=>(i* sz,sz)) is _ _ xs vs r hc0 hv (by simp) hl hr hok
 subst e2
 refine⟨.agg c',?_,.agg _ _ _ e3.1 e3.2⟩
 unfold Instr.build
 have hzr:=zaI (P:=P) hz w
 have hsz:(sizeOf e).run P w= .ok sz w:=by
  unfold szT at hs
  cases hi:P.info? e with
  |none=>simp[hi]at hs
  |some i=>
   simp only[hi,oMs,oSi]at hs
   unfold sizeOf
   rw[zl (run_typeInfo (P:=P) (w:=w) hi)]
   simp[hs]
 rw[zl hzr,zl (run_underlying ht w)]
 simp only
 rw[zl hsz]
 show (match Instr.fill (fun i=>some (i* sz,sz)) zv (is.zip vs) with|some cells=>pure (Value.agg cells)|_=>stuck "build: a part of the wrong size":Sem Value).run P w=_
 rw[e1]
 rfl
theorem zAX (h:WR C K w M R H) {t t' e ty:TypeId} {x y z:AV} {u v:Value} {H':Heap} (hx:VR w M R x u) (hy:VR w M R y v) (he:ex H .cpy [x,y]=some (z,H'))
  (ht:P.underlying t=some (.slice e)) (hs1:szT P e=some 1):Eff C K P w M R z H' id (Builtin.copy_ #[t,t'] ty #[u,v]):=by
 simp only[ex]at he
 split at he
 .rename_i id ver off len
  split at he
  .rename_i ver' s es ys hb hys
   split at he
   .rename_i hc
    obtain⟨e1,e2,e3,e4,e5⟩:=hc
    subst e1;subst e2
    cases he
    obtain⟨g,c,tt,k1,k2,k3,k4,k5,k6,k7,k8,k9,k10⟩:=h.heap.blk id _ hb
    obtain⟨a,capy,rfl,hsy,hyc⟩:=zgd h.heap hy hys
    cases hx with
    |osl R _ _ _ _ g' aa hg' hle haa=>
     rw[k1]at hg';cases hg'
     have hsz1:(P.info? e).map (·.size)=some 1:=hs1
     by_cases hne:ys=[]
     .subst hne
      have h0:len=0:=by simpa using e4.symm
      subst h0
      have hset:H.set id (.arr ver' 1 false (es.take off++[]++es.drop (off+0)))=H:=by
       simp only[List.append_nil,Nat.add_zero,List.take_append_drop]
       obtain⟨hlt,hb'⟩:=gEs.1 hb
       rw[←hb']
       exact List.set_getElem_self hlt
      rw[hset]
      exact⟨goInt 0,w,M,R,run_copy_none (P:=P) w t t' ty e _ _ _ _ _ _ ht hsz1 (by simp),.int _ _ _,h,Evol.refl _ _ _⟩
     .obtain⟨b2,o2,rfl,hcells⟩:=hyc hne
      obtain⟨s1,s2,s3,s4⟩:=zcI hsy hcells
      have s4':=s4 (lAt.1 e5)
      have hpos:0<len:=by rw[←e4];exact List.length_pos_iff.2 hne
      rw[haa (by omega)]
      have hgs:g.sz=1:=k3
      rw[hgs]
      let cs:=zbp w b2 o2 (ys.length* 1)
      have hcl:cs.length=len:=by rw[show cs.length=ys.length* 1 from s1];omega
      have hfit:g.bs+off* 1+cs.length≤c.size:=by rw[hcl,k5];omega
      have hrun:=run_copy_row (P:=P) w t t' ty e g.blk (g.bs+off* 1) len (g.cap - off) ⟨b2,o2,none⟩ ys.length capy c tt cs ht hsz1 k4 (by rw[hcl];simp[e4]) s2 hfit s4'
      let c':Array Value:=(c.toList.take (g.bs+off* 1)++cs++c.toList.drop (g.bs+off* 1+cs.length)).toArray
      have hget:∀k,c'[k]?=if k<g.bs+off* 1 then c[k]? else if k<g.bs+off* 1+len then cs[k - (g.bs+off* 1)]? else c[k]?:=by
       intro k
       show ((c.toList.take (g.bs+off* 1)++cs++c.toList.drop (g.bs+off* 1+cs.length)).toArray)[k]?=_
       rw[List.getElem?_toArray,zfj _ _ _ _ (by simpa using hfit),hcl]
       simp only[Array.getElem?_toList]
      have hcs':c'.size=c.size:=by
       show ((c.toList.take (g.bs+off* 1)++cs++c.toList.drop (g.bs+off* 1+cs.length)).toArray).size=_
       simp only[List.size_toArray,List.length_append,List.length_take,List.length_drop,Array.length_toList]
       omega
      have hel:∀(i:Nat),(es.take off++ys++es.drop (off+len))[i]?=if i<off then es[i]? else if i<off+len then ys[i - off]? else es[i]?:=by
       intro i
       have:=zqc es ys off i (by omega)
       rw[e4]at this
       exact this
      obtain⟨r1,r2⟩:=h.set (c':=c') (es':=es.take off++ys++es.drop (off+len)) (ver':=ver') hb k1 k4 hcs' (fun o y ho hm=>absurd (k9 rfl o) hm) (.inr ⟨rfl,rfl⟩) rfl k3 k5
       (by simp;omega) (by rw[show (es.take off++ys++es.drop (off+len)).length=es.length by simp;omega];exact Nat.le_refl _) (fun i e hi=>by
        rw[hel]at hi
        split at hi
        .exact k7 i e hi
        .split at hi
         .exact hsy _ e hi
         .exact k7 i e hi) (fun i e j x q hi hj hq=>by
        rw[hel]at hi
        rw[hget]at hq
        split at hi
        .rename_i h1
         have hj':j<1:=by have:=k7 i e hi;rw[←this];exact (gEs.1 hj).1
         rw[if_pos (by omega)]at hq
         exact k8 i e j x q hi hj hq
        .rename_i h1
         split at hi
         .rename_i h2
          have hj':j<1:=by have:=hsy _ e hi;rw[←this];exact (gEs.1 hj).1
          rw[if_neg (by omega),if_pos (by omega)]at hq
          rw[show g.bs+(i* 1+j) - (g.bs+off* 1)=(i - off)* 1+j by omega]at hq
          exact s3 (i - off) e j x q hi hj hq
         .rename_i h2
          have hj':j<1:=by have:=k7 i e hi;rw[←this];exact (gEs.1 hj).1
          rw[if_neg (by omega),if_neg (by omega)]at hq
          exact k8 i e j x q hi hj hq)
      exact⟨goInt cs.length,w.setRow g.blk c',M,_,hrun,by rw[hcl];exact .int _ _ _,r1,r2⟩
   .cases he
  .cases he
 .cases he
end mem2
end Go.Proofs.YtbddckhdbnmamaaGreat
