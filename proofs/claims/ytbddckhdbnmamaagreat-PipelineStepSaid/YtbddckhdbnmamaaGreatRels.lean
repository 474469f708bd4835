/-
  The relation between abstract values and the model's values in a world, and what keeps it (conditions: none, lemmas alone).
-/
import Derived.Test.YtbddckhdbnmamaaGreatLits
namespace Go.Proofs.YtbddckhdbnmamaaGreat
open Go Go.RowKit
set_option linter.unusedVariables false
set_option linter.unusedSimpArgs false
structure Own where
 sz:Nat
 blk:Nat
 cap:Nat
 bs:Nat
abbrev Res:=Nat→Nat→Option Own
def zaE:Res:=fun _ _=>none
abbrev Mut:=Nat→Nat→Prop
inductive VR (w:World) (M:Mut):Res→AV→Value→Prop
 |bad (R:Res) (v:Value):VR w M R .bad v
 |und (R:Res):VR w M R .und undef
 |bool (R:Res) (b:Bool):VR w M R (.bool b) (.bool b)
 |int (R:Res) (k:IntKind) (n:Int):VR w M R (.int k n) (.int k n)
 |str (R:Res) (l:List UInt8):VR w M R (.str l) (.string ⟨l.toArray⟩)
 |nilp (R:Res):VR w M R .nilp (.pointer none)
 |nilf (R:Res):VR w M R .nilf .nilFunc
 |eptr (R:Res) (cs:List AV) (b o:Nat) (u:Nat→Value)
   (hc:∀(j:Nat) (c:AV),cs[j]?=some c→w.cell? ⟨b,o+j,none⟩=some (u j)∧¬M b (o+j))
   (hv:∀(j:Nat) (c:AV),cs[j]?=some c→VR w M zaE c (u j)):VR w M R (.eptr cs) (.pointer (some ⟨b,o,none⟩))
 |optr (R:Res) (id ver idx off:Nat) (g:Own) (hg:R id ver=some g):VR w M R (.optr id ver idx off) (.pointer (some ⟨g.blk,g.bs+(idx* g.sz+off),none⟩))
 |isl (R:Res) (nl:Option Bool) (sz:Nat) (es:List AV) (a:Option Addr) (cap b o:Nat) (u:Nat→Nat→Value)
   (hnl:∀t,nl=some t→a.isNone=t) (hn:a=none→es=[]∧cap=0) (hcap:es.length≤cap) (ha:es≠[]→a=some ⟨b,o,none⟩) (hsz:∀(i:Nat) (e:AV),es[i]?=some e→(AV.cells e).length=sz)
   (hc:∀(i:Nat) (e:AV) (j:Nat) (c:AV),es[i]?=some e→(AV.cells e)[j]?=some c→w.cell? ⟨b,o+(i* sz+j),none⟩=some (u i j)∧¬M b (o+(i* sz+j)))
   (hv:∀(i:Nat) (e:AV) (j:Nat) (c:AV),es[i]?=some e→(AV.cells e)[j]?=some c→VR w M zaE c (u i j)):VR w M R (.isl nl sz es) (.slice a es.length cap)
 |osl (R:Res) (id ver off len:Nat) (g:Own) (a:Addr) (hg:R id ver=some g) (hle:off+len≤g.cap) (ha:off<g.cap→a=⟨g.blk,g.bs+off* g.sz,none⟩):VR w M R (.osl id ver off len) (.slice (some a) len (g.cap - off))
 |agg (R:Res) (cs:List AV) (vs:Array Value) (hs:vs.size=cs.length) (hv:∀(j:Nat) (c:AV) (u:Value),cs[j]?=some c→vs[j]?=some u→VR w M R c u):VR w M R (.agg cs) (.agg vs)
 |tuple (R:Res) (cs:List AV) (vs:Array Value) (hs:vs.size=cs.length) (hv:∀(j:Nat) (c:AV) (u:Value),cs[j]?=some c→vs[j]?=some u→VR w M R c u):VR w M R (.tuple cs) (.tuple vs)
 |clo (R:Res) (f:FuncId) (xs ys:List AV) (us vs:Array Value) (hs:us.size=xs.length) (hs':vs.size=ys.length)
   (hu:∀(j:Nat) (c:AV) (u:Value),xs[j]?=some c→us[j]?=some u→VR w M R c u) (hv:∀(j:Nat) (c:AV) (u:Value),ys[j]?=some c→vs[j]?=some u→VR w M R c u):VR w M R (.clo f xs ys) (.func (.func f) us vs)
 |yld (R:Res) (id:Nat) (g:Own) (hg:R id 0=some g):VR w M R (.yld id) (.func (.yield g.blk) #[] #[])
 |omap (R:Res) (id:Nat) (g:Own) (hg:R id 0=some g):VR w M R (.omap id) (.map (some g.blk))
 |unk (R:Res) (k:IntKind) (n:Int):VR w M R (.unk k) (.int k n)
 |oit (R:Res) (id:Nat) (g:Own) (hg:R id 0=some g):VR w M R (.oit id) (.pointer (some ⟨g.blk,0,none⟩))
 |nili (R:Res):VR w M R .nili .nilIface
 |nilm (R:Res):VR w M R .nilm (.map none)
 |imap (R:Res) (ks vs:List AV) (b:Nat) (es:Array MapEntry) (cl:Nat) (hb:w.heap[b]?=some (.map es cl)) (hm:¬M b 0) (hs:es.size=ks.length) (hl:vs.length=ks.length) (hbn:∀x∈es.toList,x.born<cl) (hnd:(es.toList.map (·.born)).Nodup)
   (hk:∀(i:Nat) (k:AV) (e:MapEntry),ks[i]?=some k→es[i]?=some e→VR w M zaE k e.key) (hv:∀(i:Nat) (v:AV) (e:MapEntry),vs[i]?=some v→es[i]?=some e→VR w M zaE v e.val):VR w M R (.imap ks vs) (.map (some b))
def VRs (w:World) (M:Mut) (R:Res) (xs:List AV) (vs:List Value):Prop:=vs.length=xs.length∧∀(j:Nat) (x:AV) (v:Value),xs[j]?=some x→vs[j]?=some v→VR w M R x v
theorem VRs.nil {w:World} {M:Mut} {R:Res}:VRs w M R [] []:=⟨rfl,by intro j x v h;simp at h⟩
theorem VRs.cons {w:World} {M:Mut} {R:Res} {x:AV} {v:Value} {xs:List AV} {vs:List Value} (h:VR w M R x v) (ht:VRs w M R xs vs):VRs w M R (x::xs) (v::vs):=by
 refine⟨by simp[ht.1],?_⟩
 intro j y u hy hu
 cases j with
 |zero=>simp at hy hu;subst hy;subst hu;exact h
 |succ j=>simp at hy hu;exact ht.2 j y u hy hu
theorem VRs.inv_cons {w:World} {M:Mut} {R:Res} {x:AV} {xs:List AV} {vs:List Value} (h:VRs w M R (x::xs) vs):∃v vs',vs=v::vs'∧VR w M R x v∧VRs w M R xs vs':=by
 cases vs with
 |nil=>simp[VRs]at h
 |cons v vs=>
  refine⟨v,vs,rfl,h.2 0 x v rfl rfl,by simpa using h.1,?_⟩
  intro j y u hy hu
  exact h.2 (j+1) y u (by simpa using hy) (by simpa using hu)
theorem VRs.inv_nil {w:World} {M:Mut} {R:Res} {vs:List Value} (h:VRs w M R [] vs):vs=[]:=by
 have:=h.1;simpa using this
theorem VRs.append {w:World} {M:Mut} {R:Res} {xs ys:List AV} {us vs:List Value} (h:VRs w M R xs us) (h':VRs w M R ys vs):VRs w M R (xs++ys) (us++vs):=by
 induction xs generalizing us with
 |nil=>rw[h.inv_nil];exact h'
 |cons x xs ih=>
  obtain⟨v,us',rfl,h1,h2⟩:=h.inv_cons
  exact VRs.cons h1 (ih h2)
structure Evol (R:Res) (M:Mut) (w:World) (R':Res) (M':Mut) (w':World):Prop where
 size:w.heap.size≤w'.heap.size
 cells:∀b o v,w.cell? ⟨b,o,none⟩=some v→¬M b o→w'.cell? ⟨b,o,none⟩=some v
 own:∀id ver g,R id ver=some g→R' id ver=some g
 mono:∀b o,b<w.heap.size→M' b o→M b o
 maps:∀b es cl,w.heap[b]?=some (.map es cl)→¬M b 0→w'.heap[b]?=some (.map es cl)
 its:∀b m c s d,w.heap[b]?=some (.mapIter m c s d)→¬M b 0→w'.heap[b]?=some (.mapIter m c s d)
theorem zbq {w:World} {b o:Nat} {v:Value} (h:w.cell? ⟨b,o,none⟩=some v):b<w.heap.size:=by
 unfold World.cell? at h
 cases hb:w.heap[b]? with
 |none=>simp[hb]at h
 |some x=>exact (aEs.1 hb).1
theorem Evol.refl (R:Res) (M:Mut) (w:World):Evol R M w R M w:=
 ⟨Nat.le_refl _,fun _ _ _ h _=>h,fun _ _ _ h=>h,fun _ _ _ h=>h,fun _ _ _ h _=>h,fun _ _ _ _ _ h _=>h⟩
theorem Evol.trans {R R' R'':Res} {M M' M'':Mut} {w w' w'':World} (h:Evol R M w R' M' w') (h':Evol R' M' w' R'' M'' w''):Evol R M w R'' M'' w'' where
 size:=Nat.le_trans h.size h'.size
 cells b o v hc hm:=h'.cells b o v (h.cells b o v hc hm) (fun hm'=>hm (h.mono b o (zbq hc) hm'))
 own id ver g hg:=h'.own id ver g (h.own id ver g hg)
 mono b o hb hm:=h.mono b o hb (h'.mono b o (Nat.lt_of_lt_of_le hb h.size) hm)
 maps b es cl hb hm:=h'.maps b es cl (h.maps b es cl hb hm) (fun hm'=>hm (h.mono b 0 (aEs.1 hb).1 hm'))
 its b m c s d hb hm:=h'.its b m c s d (h.its b m c s d hb hm) (fun hm'=>hm (h.mono b 0 (aEs.1 hb).1 hm'))
theorem VR.noRes_any {w:World} {M:Mut} {R R':Res} {x:AV} {v:Value} (h:VR w M R x v) (hR:R=zaE):VR w M R' x v:=by
 induction h with
 |bad R v=>exact .bad _ _
 |und R=>exact .und _
 |bool R b=>exact .bool _ _
 |int R k n=>exact .int _ _ _
 |str R l=>exact .str _ _
 |nilp R=>exact .nilp _
 |nilf R=>exact .nilf _
 |eptr R cs b o u hc hv ih=>exact .eptr _ cs b o u hc hv
 |optr R id ver idx off g hg=>subst hR;cases hg
 |isl R nl sz es a cap b o u hnl hn hcap ha hsz hc hv ih=>exact .isl _ nl sz es a cap b o u hnl hn hcap ha hsz hc hv
 |osl R id ver off len g a hg=>subst hR;cases hg
 |agg R cs vs hs hv ih=>exact .agg _ cs vs hs fun j c u h1 h2=>ih j c u h1 h2 hR
 |tuple R cs vs hs hv ih=>exact .tuple _ cs vs hs fun j c u h1 h2=>ih j c u h1 h2 hR
 |clo R f xs ys us vs hs hs' hu hv ihu ihv=>exact .clo _ f xs ys us vs hs hs' (fun j c u h1 h2=>ihu j c u h1 h2 hR) (fun j c u h1 h2=>ihv j c u h1 h2 hR)
 |yld R _ g hg=>subst hR;cases hg
 |omap R _ g hg=>subst hR;cases hg
 |oit R _ g hg=>subst hR;cases hg
 |unk R k n=>exact .unk _ _ _
 |nili R=>exact .nili _
 |nilm R=>exact .nilm _
 |imap R ks vs b es cl hb hm hs hl hbn hnd hk hv ihk ihv=>exact .imap _ ks vs b es cl hb hm hs hl hbn hnd hk hv
theorem VR.go {w w':World} {M M':Mut} {R:Res} {x:AV} {v:Value} (h:VR w M R x v)
  (hcell:∀b o v,w.cell? ⟨b,o,none⟩=some v→¬M b o→w'.cell? ⟨b,o,none⟩=some v) (hmut:∀b o,b<w.heap.size→M' b o→M b o) (hmap:∀b es cl,w.heap[b]?=some (.map es cl)→¬M b 0→w'.heap[b]?=some (.map es cl)):
  ∀{R':Res},(∀id ver g,R id ver=some g→R' id ver=some g)→VR w' M' R' x v:=by
 induction h with
 |bad R v=>intro R' _;exact .bad _ _
 |und R=>intro R' _;exact .und _
 |bool R b=>intro R' _;exact .bool _ _
 |int R k n=>intro R' _;exact .int _ _ _
 |str R l=>intro R' _;exact .str _ _
 |nilp R=>intro R' _;exact .nilp _
 |nilf R=>intro R' _;exact .nilf _
 |eptr R cs b o u hc hv ih=>
  intro R' _
  refine .eptr _ cs b o u (fun j c hj=>⟨hcell _ _ _ (hc j c hj).1 (hc j c hj).2,fun hm=>(hc j c hj).2 (hmut _ _ (zbq (hc j c hj).1) hm)⟩) (fun j c hj=>ih j c hj (fun _ _ _ hg=>by cases hg))
 |optr R id ver idx off g hg=>intro R' hR;exact .optr _ id ver idx off g (hR _ _ _ hg)
 |isl R nl sz es a cap b o u hnl hn hcap ha hsz hc hv ih=>
  intro R' _
  refine .isl _ nl sz es a cap b o u hnl hn hcap ha hsz (fun i e j c hi hj=>⟨hcell _ _ _ (hc i e j c hi hj).1 (hc i e j c hi hj).2,fun hm=>(hc i e j c hi hj).2 (hmut _ _ (zbq (hc i e j c hi hj).1) hm)⟩) (fun i e j c hi hj=>ih i e j c hi hj (fun _ _ _ hg=>by cases hg))
 |osl R id ver off len g a hg hle ha=>intro R' hR;exact .osl _ id ver off len g a (hR _ _ _ hg) hle ha
 |agg R cs vs hs hv ih=>intro R' hR;exact .agg _ cs vs hs fun j c u h1 h2=>ih j c u h1 h2 hR
 |tuple R cs vs hs hv ih=>intro R' hR;exact .tuple _ cs vs hs fun j c u h1 h2=>ih j c u h1 h2 hR
 |clo R f xs ys us vs hs hs' hu hv ihu ihv=>intro R' hR;exact .clo _ f xs ys us vs hs hs' (fun j c u h1 h2=>ihu j c u h1 h2 hR) (fun j c u h1 h2=>ihv j c u h1 h2 hR)
 |yld R id g hg=>intro R' hR;exact .yld _ id g (hR _ _ _ hg)
 |omap R id g hg=>intro R' hR;exact .omap _ id g (hR _ _ _ hg)
 |oit R id g hg=>intro R' hR;exact .oit _ id g (hR _ _ _ hg)
 |nili R=>intro R' _;exact .nili _
 |nilm R=>intro R' _;exact .nilm _
 |imap R ks vs b es cl hb hm hs hl hbn hnd hk hv ihk ihv=>
  intro R' _
  exact .imap _ ks vs b es cl (hmap b es cl hb hm) (fun hm'=>hm (hmut _ _ (aEs.1 hb).1 hm')) hs hl hbn hnd (fun i k e h1 h2=>ihk i k e h1 h2 (fun _ _ _ hg=>by cases hg)) (fun i v e h1 h2=>ihv i v e h1 h2 (fun _ _ _ hg=>by cases hg))
 |unk R k n=>intro R' _;exact .unk _ _ _
theorem VR.evol {w w':World} {M M':Mut} {R R':Res} {x:AV} {v:Value} (h:VR w M R x v) (he:Evol R M w R' M' w'):VR w' M' R' x v:=
 h.go he.cells he.mono he.maps he.own
theorem VRs.evol {w w':World} {M M':Mut} {R R':Res} {xs:List AV} {vs:List Value} (h:VRs w M R xs vs) (he:Evol R M w R' M' w'):VRs w' M' R' xs vs:=
 ⟨h.1,fun j x v hx hv=>(h.2 j x v hx hv).evol he⟩
abbrev zbc:=Nat→LC→Code→Prop
def zwR:Option LX→Option Code→Prop
 |none,none=>True
 |some .ret,some c=>c= .ret
 |some (.exit i),some c=>c= .exit i
 |_,_=>False
def BlkR (C:zbc) (w:World) (M:Mut) (R:Res) (id:Nat):Blk→Prop
 | .arr ver sz sh es=>∃g c t,R id ver=some g∧(∀v,ver<v→R id v=none)∧g.sz=sz∧w.heap[g.blk]?=some (.cells c t (0,0))∧c.size=g.bs+g.cap* sz∧es.length≤g.cap∧
   (∀(i:Nat) (e:AV),es[i]?=some e→(AV.cells e).length=sz)∧(∀(i:Nat) (e:AV) (j:Nat) (x:AV) (u:Value),es[i]?=some e→(AV.cells e)[j]?=some x→c[g.bs+(i* sz+j)]?=some u→VR w M R x u)∧
   (sh=false→∀o,M g.blk o)∧(∀o,g.bs+es.length* sz≤o→M g.blk o)
 | .loop st pend F ps as bd=>∃g r,R id 0=some g∧(∀v,0<v→R id v=none)∧w.heap[g.blk]?=some (.loop r)∧r.state=st∧zwR pend r.pending∧r.params=ps.toArray∧C r.tmps.size as r.assign∧C r.tmps.size bd r.body∧
   (∀i,VR w M R (F.get i) (r.tmps.getD i undef))∧(∀i∈ps,i<r.tmps.size)
 | .mp es=>∃g es' clock,R id 0=some g∧(∀v,0<v→R id v=none)∧w.heap[g.blk]?=some (.map es' clock)∧es'.size=es.length∧M g.blk 0∧((∀x∈es'.toList,x.born<clock)∧(es'.toList.map (·.born)).Nodup)∧∀(i:Nat) (k v:AV) (e:MapEntry),es[i]?=some (k,v)→es'[i]?=some e→VR w M R k e.key∧VR w M R v e.val
 | .hole _=>∀v,R id v=none
 | .sit s pos=>∃g,R id 0=some g∧(∀v,0<v→R id v=none)∧w.heap[g.blk]?=some (.stringIter ⟨s.toArray⟩ pos)
 | .dead ver=>∃g c t f,R id ver=some g∧(∀v,ver<v→R id v=none)∧w.heap[g.blk]?=some (.cells c t f)
def Blk.ver:Blk→Nat| .arr v _ _ _=>v| .loop _ _ _ _ _ _=>0| .mp _=>0| .hole _=>0| .sit _ _=>0| .dead v=>v
structure HR (C:zbc) (w:World) (M:Mut) (R:Res) (H:Heap):Prop where
 blk:∀id B,H[id]?=some B→BlkR C w M R id B
 dom:∀id ver g,R id ver=some g→id<H.length
 inj:∀i j Bi Bj gi gj,H[i]?=some Bi→H[j]?=some Bj→R i Bi.ver=some gi→R j Bj.ver=some gj→gi.blk=gj.blk→i=j
def GTab (B:Nat) (w:World):Prop:=∀p∈glbO,p.1<B∧∃t f,w.heap[p.1]?=some (.cells p.2.toArray t f)
structure Ctx where
 base:Nat
 w0:World
 M0:Mut
 pins:List (AV×Value)
 marks:List Nat
 tab:GTab base w0
def zva:List (AV×Value):=glb.map fun p=>(.eptr p.2,.pointer (some ⟨p.1,0,none⟩))
def GOk (w:World) (M:Mut) (R:Res):Prop:=(∀p∈zva,VR w M R p.1 p.2)∧GTab w.heap.size w
structure WR (C:zbc) (K:Ctx) (w:World) (M:Mut) (R:Res) (H:Heap):Prop where
 heap:HR C w M R H
 pins:∀p∈zva++K.pins,VR w M R p.1 p.2
 below:Below K.base K.w0 w
 base:∀id ver g,R id ver=some g→K.base≤g.blk
 sub:∀b o,b<K.base→(M b o↔K.M0 b o)
 le:K.base≤w.heap.size
 marks:∀r∈K.marks,w.heap[r]?=some (.deferred (some []))∧K.base≤r
 nodup:K.marks.Nodup
theorem WR.glob {C:zbc} {K:Ctx} {w:World} {M:Mut} {R:Res} {H:Heap} (h:WR C K w M R H):GOk w M R:=
 ⟨fun p hp=>h.pins p (by simp[hp]),fun p hp=>by
  obtain⟨a,t,f,b⟩:=K.tab p hp
  exact⟨Nat.lt_of_lt_of_le a h.le,t,f,by rw[h.below.block _ a];exact b⟩⟩
end Go.Proofs.YtbddckhdbnmamaaGreat
