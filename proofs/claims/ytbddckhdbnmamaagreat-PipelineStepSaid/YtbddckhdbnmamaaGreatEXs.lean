/-
  The effects of functions of the library on the call's own memory are what is said of them: slices.Sort and slices.Compact of strings, slices.Sort of numbers (conditions: none). The order of edges: the walks of cmp.Or and of the closure that compares two edges (conditions: none). The effect of slices.SortFunc on edges of the call's own memory is what is said of it (conditions: none).
-/
import Derived.WalkKit
import Derived.Laws.Externs
import Derived.Sort.KeysCollected
import Derived.Lib.SlicesCompact
import Derived.StillTailTactics
import Derived.Sort.Grow
import Derived.Deep.Draws
import Derived.Shelf.SlSortCmp.NoneTotal
import Derived.Laws.Alloc2
import Derived.Test.YtbddckhdbnmamaaGreatCallss
import Derived.Test.YtbddckhdbnmamaaGreatShelfs
section
namespace Go.Proofs.YtbddckhdbnmamaaGreat
open Go Go.RowKit
set_option linter.unusedVariables false
set_option linter.unusedSimpArgs false
def leB (a b:List UInt8):Bool:=decide (a≤b)
theorem zdp:∀{es:List AV} {l:List (List UInt8)},zer es=some l→es=l.map .str
 | [],l,h=>by simp[zer]at h;subst h;rfl
 |x::r,l,h=>by
  cases x<;>simp only[zer]at h<;>try cases h
  obtain⟨l',h1,rfl⟩:=oMe.1 h
  rw[zdp h1];rfl
theorem zm1 {C:zbc} {w:World} {M:Mut} {R:Res} {H:Heap} {id v:Nat} {l:List (List UInt8)} (hh:HR C w M R H) (hb:H[id]?=some (.arr v 1 false (l.map .str))) (h0:0<l.length) {u:Value} (hu:VR w M R (.osl id v 0 l.length) u):
  ∃g c t,R id v=some g∧(∀v',v<v'→R id v'=none)∧g.sz=1∧w.heap[g.blk]?=some (.cells c t (0,0))∧c.size=g.bs+g.cap* 1∧l.length≤g.cap∧u= .slice (some ⟨g.blk,g.bs,none⟩) l.length g.cap∧(∀(j:Nat) (x:List UInt8),l[j]?=some x→c[g.bs+j]?=some (.string ⟨x.toArray⟩))∧(∀o,M g.blk o)∧g.blk<w.heap.size:=by
 obtain⟨g,c,t,h1,h2,h3,h4,h5,h6,h7,h8,h9,h10⟩:=hh.blk _ _ hb
 simp only[List.length_map]at h6
 cases hu with
 |osl R _ _ _ _ g' a hg' hle ha=>
 rw[h1]at hg';cases hg'
 have hae:=ha (by omega)
 refine⟨g,c,t,h1,h2,h3,h4,h5,h6,by rw[hae,h3];simp,fun j x hj=>?_,h9 rfl,(aEs.1 h4).1⟩
 have hjl:=(gEs.1 hj).1
 have hlt:g.bs+j<c.size:=by rw[h5];omega
 have q:=h8 j (.str x) 0 (.str x) c[g.bs+j] (by rw[gEm,hj];rfl) rfl (by rw[Nat.mul_one,Nat.add_zero];exact Array.getElem?_eq_getElem hlt)
 rw[Array.getElem?_eq_getElem hlt]
 generalize c[g.bs+j]=z at q
 cases q;rfl
theorem zix {w:World} {b o:Nat} {l:List (List UInt8)} {c:Array Value} {t:TypeId} (hb:w.heap[b]?=some (.cells c t (0,0))) (hc:∀(j:Nat) (x:List UInt8),l[j]?=some x→c[o+j]?=some (.string ⟨x.toArray⟩)):Sort.Holds encStr w b o l.toArray:=by
 intro j hj
 have hj':j<l.length:=by simpa using hj
 have h1:=hc j l[j] (gEg hj')
 have h2:(l.toArray)[j]! =l[j]:=by simp[hj']
 rw[h2]
 exact⟨by simp[World.cell?,hb,h1,encStr],by simp[World.frozen?,hb]⟩
theorem zit (x:List UInt8) (l:List (List UInt8)):(insS x l).Perm (x::l):=by
 induction l with
 |nil=>exact List.Perm.refl _
 |cons y r ih=>
  simp only[insS]
  split
  .exact List.Perm.refl _
  .exact (ih.cons y).trans (List.Perm.swap x y r)
theorem zga (l:List (List UInt8)):(zcw l).Perm l:=by
 induction l with
 |nil=>exact List.Perm.refl _
 |cons x r ih=>exact (zit x (zcw r)).trans (ih.cons x)
theorem zjF {x:List UInt8} {l:List (List UInt8)} (h:l.Pairwise (fun a b=>leB a b=true)):(insS x l).Pairwise (fun a b=>leB a b=true):=by
 induction l with
 |nil=>simp[insS]
 |cons y r ih=>
  simp only[insS]
  obtain⟨h1,h2⟩:=List.pairwise_cons.1 h
  split
  .rename_i hxy
   refine List.pairwise_cons.2 ⟨fun z hz=>?_,h⟩
   rcases lMc.1 hz with rfl|hz
   .simpa[leB]using hxy
   .have:=h1 z hz
    simp only[leB,dTe]at this⊢
    exact List.le_trans hxy this
  .rename_i hxy
   refine List.pairwise_cons.2 ⟨fun z hz=>?_,ih h2⟩
   have:=(zit x r).mem_iff.1 hz
   rcases lMc.1 this with rfl|hz
   .simp only[leB,dTe]
    rcases List.le_total y z with h|h
    .exact h
    .exact absurd h hxy
   .exact h1 z hz
theorem zhO (l:List (List UInt8)):(zcw l).Pairwise (fun a b=>leB a b=true):=by
 induction l with
 |nil=>exact List.Pairwise.nil
 |cons x r ih=>exact zjF ih
theorem zp2 (l:List (List UInt8)):zcw l=l.mergeSort fun x y=>decide (x≤y):=by
 have tr:∀a b c:List UInt8,leB a b=true→leB b c=true→leB a c=true:=fun a b c h1 h2=>by simp only[leB,dTe]at *;exact List.le_trans h1 h2
 have tot:∀a b:List UInt8,(leB a b||leB b a)=true:=fun a b=>by simp only[leB,Bool.or_eq_true,dTe];exact List.le_total a b
 refine List.Perm.eq_of_pairwise (le:=fun a b=>leB a b=true) (fun a b _ _ h1 h2=>?_) (zhO l) (List.pairwise_mergeSort tr tot l) ((zga l).trans (List.mergeSort_perm l _).symm)
 simp only[leB,dTe]at h1 h2
 exact List.le_antisymm h1 h2
theorem zlJ {w:World} {b o:Nat} {l:List (List UInt8)} {c:Array Value} {t:TypeId} {f:Nat×Nat} (hb:w.heap[b]?=some (.cells c t f)):Sort.putRow encStr w b o l.toArray=w.setRow b (Sort.putCells encStr o l.toArray c):=by
 unfold Sort.putRow Sort.mapBlock World.setRow
 congr 1
 apply Array.ext_getElem?
 intro k
 simp only[Array.getElem?_modify]
 by_cases hk:b=k
 .subst hk;simp[hb,Sort.onCells]
 .simp[hk]
theorem zh0 {o:Nat} {l:List (List UInt8)} {c:Array Value} (k:Nat):(Sort.putCells encStr o l.toArray c)[k]?=if k<c.size then (if o≤k∧k<o+l.length then (l[k - o]?).map encStr else c[k]?) else none:=by
 unfold Sort.putCells
 rw[Array.getElem?_mapIdx]
 by_cases hk:k<c.size
 .rw[if_pos hk,Array.getElem?_eq_getElem hk]
  simp only[oMs,List.size_toArray]
  split
  .rename_i h
   have h2:k - o<l.length:=by omega
   simp[h2]
  .rfl
 .rw[if_neg hk,Array.getElem?_eq_none (by omega)];rfl
theorem Fine.ahead {P:Program} {K:Ctx} {w:World} {M:Mut} {R:Res} {H:Heap} (hw:WR (zG P) K w M R H) (n:Nat):WR (zG P) K (Sort.ahead w n) M R H∧Evol R M w R M (Sort.ahead w n):=hw.same rfl rfl rfl rfl
theorem zem (w:World) (os:Array Obj):Below w.heap.size w (Sort.grow w os):=by
 refine⟨rfl,rfl,rfl,by simp[Sort.grow],fun k hk=>?_⟩
 simp only[Sort.grow]
 rw[Array.getElem?_append_left hk]
theorem zky {P:Program} {K:Ctx} {w:World} {M:Mut} {R:Res} {H:Heap} {id v:Nat} {l l':List (List UInt8)} (hw:WR (zG P) K w M R H) (hb:H[id]?=some (.arr v 1 false (l.map .str))) {g:Own} {c:Array Value} {t:TypeId} (hg:R id v=some g) (hgs:g.sz=1) (h4:w.heap[g.blk]?=some (.cells c t (0,0))) (h5:c.size=g.bs+g.cap* 1) (h6:l.length≤g.cap) (hM:∀o,M g.blk o) (hl:l'.length=l.length):
  WR (zG P) K (Sort.putRow encStr w g.blk g.bs l'.toArray) M (zq R id v g) (H.set id (.arr v 1 false (l'.map .str)))∧Evol R M w (zq R id v g) M (Sort.putRow encStr w g.blk g.bs l'.toArray):=by
 rw[zlJ h4]
 refine hw.set (es':=l'.map .str) (c':=Sort.putCells encStr g.bs l'.toArray c) (g1:=g) hb hg h4 (by simp[Sort.putCells]) (fun o y _ hm=>absurd (hM o) hm) (.inr ⟨rfl,rfl⟩) rfl hgs h5 (by simp;omega) (by simp[hl]) (fun i e hi=>?_) (fun i e j x u hi hj hu=>?_)
 .obtain⟨y,_,rfl⟩:=List.mem_map.1 (lMg hi)
  rfl
 .rw[gEm]at hi
  obtain⟨y,h1,rfl⟩:=oMe.1 hi
  cases j with
  |succ j=>simp[AV.cells]at hj
  |zero=>
   simp[AV.cells]at hj
   subst hj
   have hil:=(gEs.1 h1).1
   rw[Nat.mul_one,Nat.add_zero,zh0,if_pos (by omega),if_pos (by omega),show g.bs+i - g.bs=i by omega,h1]at hu
   cases hu
   exact .str _ _
theorem zwz (he:Enters Tryz.prog 212):zeH Tryz.prog 212 zm4:=by
 refine⟨he,fun K w M R H H' args avs v hw hv h=>?_⟩
 unfold zm4 at h
 split at h
 .cases h
  obtain⟨u1,us,rfl,a1,a2⟩:=hv.inv_cons
  have:=a2.inv_nil
  subst this
  cases a1 with
  |isl R _ _ _ a cap b o u hnl hna hcap ha hsz hc hv1=>
  refine CallsIn.mono (callsIn_wide.2 (Tryz.slices_Sort_string_none a cap w)) ?_
  rintro e w' ⟨rfl,rfl⟩
  exact⟨_,rfl,_,_,hw,Evol.refl _ _ _,.tuple _ _ _ rfl (by intro j c u hj;simp at hj)⟩
 .rename_i id ver len
  split at h
  .rename_i v0 es hb
   split at h
   .rename_i hcond
    obtain⟨rfl,rfl,h0⟩:=hcond
    split at h
    .rename_i l hl
     split at h
     .rename_i hll
      cases h
      have:=zdp hl
      subst this
      simp only[List.length_map]at h0 hv
      obtain⟨u1,us,rfl,a1,a2⟩:=hv.inv_cons
      have:=a2.inv_nil
      subst this
      obtain⟨g,c,t,q1,q2,q3,q4,q5,q6,rfl,q8,q9,q10⟩:=zm1 hw.heap hb h0 a1
      have hH:=zix q4 q8
      refine CallsIn.mono (callsIn_wide.2 (Tryz.slices_Sort_string g.blk g.bs g.cap l w hH q10 (by omega))) ?_
      rintro e w' ⟨rfl,n,os,rfl⟩
      obtain⟨d1,d2⟩:=Fine.ahead hw n
      rw[←zp2]
      have hlen:(zcw l).length=l.length:=(zga l).length_eq
      obtain⟨r1,r2⟩:=zky (l':=zcw l) d1 hb q1 q3 q4 q5 q6 q9 hlen
      obtain⟨z1,z2⟩:=r1.belowAll (zem _ os)
      exact⟨_,rfl,_,_,z1,(d2.trans r2).trans z2,.tuple _ _ _ rfl (by intro j c u hj;simp at hj)⟩
     .cases h
    .cases h
   .cases h
  .cases h
 .cases h
theorem zgy:∀(l:List (List UInt8)) (x:List UInt8),zag (l++[x])=zag l++(if l=[]∨l.getLast?≠some x then [x] else [])
 | [],x=>by simp[zag]
 | [y],x=>by
  by_cases h:y=x
  .subst h;simp[zag]
  .simp[zag,h]
 |y::z::r,x=>by
  have ih:=zgy (z::r) x
  simp only[List.cons_append]at ih⊢
  by_cases h:y=z
  .subst h
   simp only[zag,if_true]
   rw[ih];simp
  .simp only[zag,if_neg h]
   rw[ih];simp
theorem zr7 (zs:List (List UInt8)):zag zs=Lib.compact zs:=by
 have key:∀m,m≤zs.length→Lib.compactUpTo zs.toArray m=zag (zs.take m):=by
  intro m
  induction m with
  |zero=>intro _;simp[Lib.compactUpTo,zag]
  |succ m ih=>
   intro hm
   have hm':m<zs.length:=by omega
   rw[Lib.compactUpTo_succ,ih (by omega),List.take_succ_eq_append_getElem hm',zgy]
   congr 1
   have e1:zs.toArray[m]! =zs[m]:=by simp[hm']
   rw[e1]
   cases m with
   |zero=>simp[Lib.keeps]
   |succ k=>
    have hk:k<zs.length:=by omega
    have e2:zs.toArray[k+1 - 1]! =zs[k]:=by simp[hk]
    have e3:(zs.take (k+1)).getLast?=some zs[k]:=by
     rw[List.take_succ_eq_append_getElem hk,List.getLast?_append];rfl
    have e4:zs.take (k+1)≠[]:=by
     intro h;rw[h]at e3;cases e3
    simp only[Lib.keeps,e1,e2,e3,e4,false_or,Nat.succ_ne_zero,ne_eq,oSi]
    by_cases h:zs[k]=zs[k+1]
    .simp[h]
    .have h':¬zs[k+1]=zs[k]:=fun e=>h e.symm
     simp[h,h']
 have:=key zs.length (Nat.le_refl _)
 rw[List.take_length]at this
 exact this.symm
theorem zdT (l:List (List UInt8)):(zag l).length≤l.length:=by
 induction l with
 |nil=>simp[zag]
 |cons x r ih=>
  cases r with
  |nil=>simp[zag]
  |cons y r=>
   simp only[zag]
   split
   .simp only[lLc]at ih⊢;omega
   .simp only[lLc]at ih⊢;omega
theorem zxG (he:Enters Tryz.prog 213):zeH Tryz.prog 213 zo4:=by
 refine⟨he,fun K w M R H H' args avs v hw hv h=>?_⟩
 unfold zo4 at h
 split at h
 .cases h
  obtain⟨u1,us,rfl,a1,a2⟩:=hv.inv_cons
  have:=a2.inv_nil
  subst this
  cases a1 with
  |isl R _ _ _ a cap b o u hnl hna hcap ha hsz hc hv1=>
  refine CallsIn.mono (callsIn_wide.2 (Tryz.slices_Compact_string_empty a cap w)) ?_
  rintro e w' ⟨rfl,rfl⟩
  exact⟨_,rfl,_,_,hw,Evol.refl _ _ _,.isl _ _ _ [] a cap b o u hnl hna hcap ha hsz hc hv1⟩
 .rename_i id ver len
  split at h
  .rename_i v0 es hb
   split at h
   .rename_i hcond
    obtain⟨rfl,rfl,h0⟩:=hcond
    split at h
    .rename_i l hl
     split at h
     .rename_i hll
      cases h
      have:=zdp hl
      subst this
      simp only[List.length_map]at h0 hv
      obtain⟨u1,us,rfl,a1,a2⟩:=hv.inv_cons
      have:=a2.inv_nil
      subst this
      obtain⟨g,c,t,q1,q2,q3,q4,q5,q6,rfl,q8,q9,q10⟩:=zm1 hw.heap hb h0 a1
      have hH:=zix q4 q8
      refine CallsIn.mono (callsIn_wide.2 (Tryz.slices_Compact_string g.blk g.bs g.cap l w hH (by omega) q6)) ?_
      rintro e w' ⟨rfl,n,rfl⟩
      obtain⟨d1,d2⟩:=Fine.ahead hw n
      rw[←zr7]
      have hcl:=zdT l
      have hlen:(zag l++List.replicate (l.length - (zag l).length) []).length=l.length:=by simp;omega
      obtain⟨r1,r2⟩:=zky (l':=zag l++List.replicate (l.length - (zag l).length) []) d1 hb q1 q3 q4 q5 q6 q9 hlen
      refine⟨_,rfl,_,_,r1,d2.trans r2,?_⟩
      have key:=VR.osl (w:=Sort.putRow encStr (Sort.ahead w n) g.blk g.bs (zag l++List.replicate (l.length - (zag l).length) []).toArray) (M:=M) (zq R id v0 g) id v0 0 (zag l).length g ⟨g.blk,g.bs,none⟩ (by simp[zq]) (by omega) (by simp)
      simpa using key
     .cases h
    .cases h
   .cases h
  .cases h
 .cases h
theorem zfA:∀{es:List AV} {l:List Int},zey es=some l→es=l.map (.int .i64)
 | [],l,h=>by simp[zey]at h;subst h;rfl
 |x::r,l,h=>by
  cases x with
  |int k n=>
   cases k<;>simp only[zey]at h<;>try cases h
   obtain⟨l',h1,rfl⟩:=oMe.1 h
   rw[zfA h1];rfl
  |_=>simp[zey]at h
def leI (a b:Int):Bool:=decide (a≤b)
theorem zu2 {C:zbc} {w:World} {M:Mut} {R:Res} {H:Heap} {id v:Nat} {l:List Int} (hh:HR C w M R H) (hb:H[id]?=some (.arr v 1 false (l.map (.int .i64)))) (h0:0<l.length) {u:Value} (hu:VR w M R (.osl id v 0 l.length) u):
  ∃g c t,R id v=some g∧(∀v',v<v'→R id v'=none)∧g.sz=1∧w.heap[g.blk]?=some (.cells c t (0,0))∧c.size=g.bs+g.cap* 1∧l.length≤g.cap∧u= .slice (some ⟨g.blk,g.bs,none⟩) l.length g.cap∧(∀(j:Nat) (x:Int),l[j]?=some x→c[g.bs+j]?=some (.int .i64 x))∧(∀o,M g.blk o)∧g.blk<w.heap.size:=by
 obtain⟨g,c,t,h1,h2,h3,h4,h5,h6,h7,h8,h9,h10⟩:=hh.blk _ _ hb
 simp only[List.length_map]at h6
 cases hu with
 |osl R _ _ _ _ g' a hg' hle ha=>
 rw[h1]at hg';cases hg'
 have hae:=ha (by omega)
 refine⟨g,c,t,h1,h2,h3,h4,h5,h6,by rw[hae,h3];simp,fun j x hj=>?_,h9 rfl,(aEs.1 h4).1⟩
 have hjl:=(gEs.1 hj).1
 have hlt:g.bs+j<c.size:=by rw[h5];omega
 have q:=h8 j (.int .i64 x) 0 (.int .i64 x) c[g.bs+j] (by rw[gEm,hj];rfl) rfl (by rw[Nat.mul_one,Nat.add_zero];exact Array.getElem?_eq_getElem hlt)
 rw[Array.getElem?_eq_getElem hlt]
 generalize c[g.bs+j]=z at q
 cases q;rfl
theorem zlV {w:World} {b o:Nat} {l:List Int} {c:Array Value} {t:TypeId} (hb:w.heap[b]?=some (.cells c t (0,0))) (hc:∀(j:Nat) (x:Int),l[j]?=some x→c[o+j]?=some (.int .i64 x)):Sort.Holds (Value.int .i64) w b o l.toArray:=by
 intro j hj
 have hj':j<l.length:=by simpa using hj
 have h1:=hc j l[j] (gEg hj')
 have h2:(l.toArray)[j]! =l[j]:=by simp[hj']
 rw[h2]
 exact⟨by simp[World.cell?,hb,h1],by simp[World.frozen?,hb]⟩
theorem ziu (x:Int) (l:List Int):(insI x l).Perm (x::l):=by
 induction l with
 |nil=>exact List.Perm.refl _
 |cons y r ih=>
  simp only[insI]
  split
  .exact List.Perm.refl _
  .exact (ih.cons y).trans (List.Perm.swap x y r)
theorem zgb (l:List Int):(zd4 l).Perm l:=by
 induction l with
 |nil=>exact List.Perm.refl _
 |cons x r ih=>exact (ziu x (zd4 r)).trans (ih.cons x)
theorem zjG {x:Int} {l:List Int} (h:l.Pairwise (fun a b=>leI a b=true)):(insI x l).Pairwise (fun a b=>leI a b=true):=by
 induction l with
 |nil=>simp[insI]
 |cons y r ih=>
  simp only[insI]
  obtain⟨h1,h2⟩:=List.pairwise_cons.1 h
  split
  .rename_i hxy
   refine List.pairwise_cons.2 ⟨fun z hz=>?_,h⟩
   rcases lMc.1 hz with rfl|hz
   .simpa[leI]using hxy
   .have:=h1 z hz
    simp only[leI,dTe]at this⊢
    exact Int.le_trans hxy this
  .rename_i hxy
   refine List.pairwise_cons.2 ⟨fun z hz=>?_,ih h2⟩
   have:=(ziu x r).mem_iff.1 hz
   rcases lMc.1 this with rfl|hz
   .simp only[leI,dTe]
    rcases Int.le_total y z with h|h
    .exact h
    .exact absurd h hxy
   .exact h1 z hz
theorem zhP (l:List Int):(zd4 l).Pairwise (fun a b=>leI a b=true):=by
 induction l with
 |nil=>exact List.Pairwise.nil
 |cons x r ih=>exact zjG ih
theorem zp3 (l:List Int):zd4 l=l.mergeSort fun x y=>decide (x≤y):=by
 have tr:∀a b c:Int,leI a b=true→leI b c=true→leI a c=true:=fun a b c h1 h2=>by simp only[leI,dTe]at *;exact Int.le_trans h1 h2
 have tot:∀a b:Int,(leI a b||leI b a)=true:=fun a b=>by simp only[leI,Bool.or_eq_true,dTe];exact Int.le_total a b
 refine List.Perm.eq_of_pairwise (le:=fun a b=>leI a b=true) (fun a b _ _ h1 h2=>?_) (zhP l) (List.pairwise_mergeSort tr tot l) ((zgb l).trans (List.mergeSort_perm l _).symm)
 simp only[leI,dTe]at h1 h2
 exact Int.le_antisymm h1 h2
theorem zjx {w:World} {b o:Nat} {l:List Int} {c:Array Value} {t:TypeId} {f:Nat×Nat} (hb:w.heap[b]?=some (.cells c t f)):Sort.putRow (Value.int .i64) w b o l.toArray=w.setRow b (Sort.putCells (Value.int .i64) o l.toArray c):=by
 unfold Sort.putRow Sort.mapBlock World.setRow
 congr 1
 apply Array.ext_getElem?
 intro k
 simp only[Array.getElem?_modify]
 by_cases hk:b=k
 .subst hk;simp[hb,Sort.onCells]
 .simp[hk]
theorem zgW {o:Nat} {l:List Int} {c:Array Value} (k:Nat):(Sort.putCells (Value.int .i64) o l.toArray c)[k]?=if k<c.size then (if o≤k∧k<o+l.length then (l[k - o]?).map (Value.int .i64) else c[k]?) else none:=by
 unfold Sort.putCells
 rw[Array.getElem?_mapIdx]
 by_cases hk:k<c.size
 .rw[if_pos hk,Array.getElem?_eq_getElem hk]
  simp only[oMs,List.size_toArray]
  split
  .rename_i h
   have h2:k - o<l.length:=by omega
   simp[h2]
  .rfl
 .rw[if_neg hk,Array.getElem?_eq_none (by omega)];rfl
theorem zqh {P:Program} {K:Ctx} {w:World} {M:Mut} {R:Res} {H:Heap} {id v:Nat} {l l':List Int} (hw:WR (zG P) K w M R H) (hb:H[id]?=some (.arr v 1 false (l.map (.int .i64)))) {g:Own} {c:Array Value} {t:TypeId} (hg:R id v=some g) (hgs:g.sz=1) (h4:w.heap[g.blk]?=some (.cells c t (0,0))) (h5:c.size=g.bs+g.cap* 1) (h6:l.length≤g.cap) (hM:∀o,M g.blk o) (hl:l'.length=l.length):
  WR (zG P) K (Sort.putRow (Value.int .i64) w g.blk g.bs l'.toArray) M (zq R id v g) (H.set id (.arr v 1 false (l'.map (.int .i64))))∧Evol R M w (zq R id v g) M (Sort.putRow (Value.int .i64) w g.blk g.bs l'.toArray):=by
 rw[zjx h4]
 refine hw.set (es':=l'.map (.int .i64)) (c':=Sort.putCells (Value.int .i64) g.bs l'.toArray c) (g1:=g) hb hg h4 (by simp[Sort.putCells]) (fun o y _ hm=>absurd (hM o) hm) (.inr ⟨rfl,rfl⟩) rfl hgs h5 (by simp;omega) (by simp[hl]) (fun i e hi=>?_) (fun i e j x u hi hj hu=>?_)
 .obtain⟨y,_,rfl⟩:=List.mem_map.1 (lMg hi)
  rfl
 .rw[gEm]at hi
  obtain⟨y,h1,rfl⟩:=oMe.1 hi
  cases j with
  |succ j=>simp[AV.cells]at hj
  |zero=>
   simp[AV.cells]at hj
   subst hj
   have hil:=(gEs.1 h1).1
   rw[Nat.mul_one,Nat.add_zero,zgW,if_pos (by omega),if_pos (by omega),show g.bs+i - g.bs=i by omega,h1]at hu
   cases hu
   exact .int _ _ _
theorem ztL (he:Enters Tryz.prog 228):zeH Tryz.prog 228 zhQ:=by
 refine⟨he,fun K w M R H H' args avs v hw hv h=>?_⟩
 unfold zhQ at h
 split at h
 .cases h
  obtain⟨u1,us,rfl,a1,a2⟩:=hv.inv_cons
  have:=a2.inv_nil
  subst this
  cases a1 with
  |isl R _ _ _ a cap b o u hnl hna hcap ha hsz hc hv1=>
  refine CallsIn.mono (callsIn_wide.2 (Tryz.slices_Sort_int_none a cap w)) ?_
  rintro e w' ⟨rfl,rfl⟩
  exact⟨_,rfl,_,_,hw,Evol.refl _ _ _,.tuple _ _ _ rfl (by intro j c u hj;simp at hj)⟩
 .rename_i id ver len
  split at h
  .rename_i v0 es hb
   split at h
   .rename_i hcond
    obtain⟨rfl,rfl,h0⟩:=hcond
    split at h
    .rename_i l hl
     split at h
     .rename_i hll
      cases h
      have:=zfA hl
      subst this
      simp only[List.length_map]at h0 hv
      obtain⟨u1,us,rfl,a1,a2⟩:=hv.inv_cons
      have:=a2.inv_nil
      subst this
      obtain⟨g,c,t,q1,q2,q3,q4,q5,q6,rfl,q8,q9,q10⟩:=zu2 hw.heap hb h0 a1
      have hH:=zlV q4 q8
      refine CallsIn.mono (callsIn_wide.2 (Tryz.slices_Sort_int g.blk g.bs g.cap l w hH q10 (by omega))) ?_
      rintro e w' ⟨rfl,n,os,rfl⟩
      obtain⟨d1,d2⟩:=Fine.ahead hw n
      rw[←zp3]
      have hlen:(zd4 l).length=l.length:=(zgb l).length_eq
      obtain⟨r1,r2⟩:=zqh (l':=zd4 l) d1 hb q1 q3 q4 q5 q6 q9 hlen
      obtain⟨z1,z2⟩:=r1.belowAll (zem _ os)
      exact⟨_,rfl,_,_,z1,(d2.trans r2).trans z2,.tuple _ _ _ rfl (by intro j c u hj;simp at hj)⟩
     .cases h
    .cases h
   .cases h
  .cases h
 .cases h
end Go.Proofs.YtbddckhdbnmamaaGreat
end
section
namespace Go.Proofs
open Go Go.RowKit
set_option linter.unusedVariables false
set_option linter.unusedSimpArgs false
set_option maxHeartbeats 1000000 in
set_option maxRecDepth 100000 in
theorem Tryz.cmp_Or2 (b:Nat) (x y:Int) (W:World) (h0:W.cell? ⟨b,0,none⟩=some (.int .i64 x)) (h1:W.cell? ⟨b,1,none⟩=some (.int .i64 y)):
  Calls Tryz.prog 108 #[.slice (some ⟨b,0,none⟩) 2 2] W fun e w'=>e= .returned (.int .i64 (if x≠0 then x else y))∧w'=W:=by
 by_cases hx:x=0
 .subst hx
  by_cases hy:y=0
  .subst hy
   go_enter Tryz.func108,Tryz.ntmps108
   go_wp2
   refine wp_loop_rounds 3 ?_
   rw[rounds_succ]
   go_wp2
   rw[rounds_succ]
   go_wp2
   rw[rounds_succ]
   go_wp2
   go_ret
   exact⟨rfl,rfl⟩
  .go_enter Tryz.func108,Tryz.ntmps108
   go_wp2
   refine wp_loop_rounds 3 ?_
   rw[rounds_succ]
   go_wp2
   rw[rounds_succ]
   go_wp2
   go_ret
   exact⟨rfl,rfl⟩
 .go_enter Tryz.func108,Tryz.ntmps108
  go_wp2
  refine wp_loop_rounds 3 ?_
  rw[rounds_succ]
  go_wp2
  go_ret
  exact⟨rfl,rfl⟩
set_option maxHeartbeats 4000000 in
set_option maxRecDepth 100000 in
theorem Tryz.closure107 (x1 x2 y1 y2:Int) (W:World):Calls Tryz.prog 107 #[.agg #[.int .i64 x1,.int .i64 x2],.agg #[.int .i64 y1,.int .i64 y2]] W fun e w'=>e= .returned (.int .i64 (if Lib.compareInt x1 y1≠0 then Lib.compareInt x1 y1 else Lib.compareInt x2 y2))∧∃q os',w'=Sort.grow (W.drewN q) os':=by
 have hcon1:=fun W'=>Tryz.cmp_Compare_int x1 y1 W'
 have hcon2:=fun W'=>Tryz.cmp_Compare_int x2 y2 W'
 generalize Lib.compareInt x1 y1=r at hcon1⊢
 generalize Lib.compareInt x2 y2=t at hcon2⊢
 have hor:=fun b W' h0 h1=>Tryz.cmp_Or2 b r t W' h0 h1
 generalize (if r≠0 then r else t)=z at hor⊢
 go_enter Tryz.func107,Tryz.ntmps107
 go_wp2
 obtain⟨w2,hw2⟩:∃w2,w2=((W.alloc (Obj.cells #[Value.int .i64 x1,Value.int .i64 x2] 109)).alloc (Obj.cells #[Value.int .i64 y1,Value.int .i64 y2] 109)):=⟨_,rfl⟩
 rw[←hw2]
 refine wp_region_still_tail 10 (by kernel_rfl) (by kernel_rfl) ?_
 simp only[List.take_succ_cons,List.take_zero,List.drop_succ_cons,List.drop_zero]
 obtain⟨w3,hw3⟩:∃w3,w3={w2 with drawn:=w2.drawn+1}:=⟨_,rfl⟩
 have k1:w3.cell? ⟨W.heap.size,0,none⟩=some (.int .i64 x1):=by rw[hw3,hw2];exact World.cell?_alloc2_first _ _ _ _
 have k2:w3.cell? ⟨W.heap.size,1,none⟩=some (.int .i64 x2):=by rw[hw3,hw2];exact World.cell?_alloc2_first _ _ _ _
 have k3:w3.cell? ⟨W.heap.size+1,0,none⟩=some (.int .i64 y1):=by rw[hw3,hw2];exact World.cell?_alloc2_new _ _ _ _
 have k4:w3.cell? ⟨W.heap.size+1,1,none⟩=some (.int .i64 y2):=by rw[hw3,hw2];exact World.cell?_alloc2_new _ _ _ _
 rw[←hw3]
 have hg:∃q os',w3=Sort.grow (W.drewN q) os':=⟨1,_,by rw[hw3,hw2];simp only[Sort.alloc_eq_grow,Sort.grow_grow];rfl⟩
 clear hw3 hw2 w2
 still_step
 still_step
 still_step
 still_step
 still_call (hcon1 _)
 still_step
 still_step
 still_step
 still_step
 still_call (hcon2 _)
 refine wpStill_nil ?_
 go_wp2_with (fail)
 refine (hor _ _ ?_ ?_).mono ?_
 .exact World.cell?_alloc_new _ _ _ _
 .exact World.cell?_alloc_new _ _ _ _
 rintro e w' ⟨rfl,rfl⟩
 go_wp2
 go_ret
 obtain⟨q,os',hg⟩:=hg
 exact⟨rfl,q,_,by rw[hg];simp only[Sort.alloc_eq_grow,Sort.grow_grow];rfl⟩
#print axioms Tryz.closure107
end Go.Proofs
end
section
namespace Go.Proofs.YtbddckhdbnmamaaGreat
open Go Go.RowKit
set_option linter.unusedVariables false
set_option linter.unusedSimpArgs false
theorem zeE:∀{es:List AV} {l:List (Int×Int)},zfL es=some l→es=l.map ziU
 | [],l,h=>by simp[zfL]at h;subst h;rfl
 |x::r,l,h=>by
  unfold zfL at h
  split at h
  .rename_i h0;cases h0
  .rename_i a b r' h0
   cases h0
   obtain⟨l',h1,rfl⟩:=oMe.1 h
   rw[zeE h1];rfl
  .cases h
def encE (x:Int×Int):List Value:=[.int .i64 x.1,.int .i64 x.2]
def cfE (x y:Int×Int):Int:=if Lib.compareInt x.1 y.1≠0 then Lib.compareInt x.1 y.1 else Lib.compareInt x.2 y.2
theorem ltE (x y:Int×Int):ltOf cfE x y=(decide (x.1<y.1)||(decide (x.1=y.1)&&decide (x.2<y.2))):=by
 unfold ltOf cfE Lib.compareInt
 by_cases h1:x.1<y.1
 .simp[h1]
 .by_cases h2:y.1<x.1
  .have:¬x.1=y.1:=by omega
   simp[h1,h2,this]
  .have:x.1=y.1:=by omega
   by_cases h3:x.2<y.2
   .simp[this,h3]
   .by_cases h4:y.2<x.2<;>simp[this,h3,h4]
theorem swoE:Sort.SWO (ltOf cfE) where
 irrefl x:=by rw[ltE];simp
 trans x y z h1 h2:=by rw[ltE]at *;simp at *;omega
 ntrans x y z h1 h2:=by rw[ltE]at *;simp at *;omega
theorem totE (x y:Int×Int) (h1:ltOf cfE x y=false) (h2:ltOf cfE y x=false):x=y:=by
 rw[ltE]at *;simp at *
 exact Prod.ext (by omega) (by omega)
theorem zds {p q:Int×Int}:leE p q=true↔p.1<q.1∨(p.1=q.1∧p.2≤q.2):=by simp[leE]
theorem ziv (x:Int×Int) (l:List (Int×Int)):(insE x l).Perm (x::l):=by
 induction l with
 |nil=>exact List.Perm.refl _
 |cons y r ih=>
  simp only[insE]
  split
  .exact List.Perm.refl _
  .exact (ih.cons y).trans (List.Perm.swap x y r)
theorem zgc (l:List (Int×Int)):(zhS l).Perm l:=by
 induction l with
 |nil=>exact List.Perm.refl _
 |cons x r ih=>exact (ziv x (zhS r)).trans (ih.cons x)
theorem zjH {x:Int×Int} {l:List (Int×Int)} (h:l.Pairwise (fun a b=>leE a b=true)):(insE x l).Pairwise (fun a b=>leE a b=true):=by
 induction l with
 |nil=>simp[insE]
 |cons y r ih=>
  simp only[insE]
  obtain⟨h1,h2⟩:=List.pairwise_cons.1 h
  split
  .rename_i hxy
   refine List.pairwise_cons.2 ⟨fun z hz=>?_,h⟩
   rcases lMc.1 hz with rfl|hz
   .exact hxy
   .have:=h1 z hz
    rw[zds]at *;omega
  .rename_i hxy
   refine List.pairwise_cons.2 ⟨fun z hz=>?_,ih h2⟩
   have:=(ziv x r).mem_iff.1 hz
   rcases lMc.1 this with rfl|hz
   .rw[zds]at *;omega
   .exact h1 z hz
theorem zhR (l:List (Int×Int)):(zhS l).Pairwise (fun a b=>leE a b=true):=by
 induction l with
 |nil=>exact List.Pairwise.nil
 |cons x r ih=>exact zjH ih
theorem zxa (x y:Int×Int):(!(ltOf cfE) y x)=leE x y:=by
 rw[ltE,Bool.eq_iff_iff,zds]
 simp
 omega
theorem zp4 (l:List (Int×Int)):zhS l=l.mergeSort fun x y=> !(ltOf cfE) y x:=by
 have e:(fun x y=> !(ltOf cfE) y x)=leE:=by funext x y;exact zxa x y
 rw[e]
 have tr:∀a b c:Int×Int,leE a b=true→leE b c=true→leE a c=true:=fun a b c h1 h2=>by rw[zds]at *;omega
 have tot:∀a b:Int×Int,(leE a b||leE b a)=true:=fun a b=>by rw[Bool.or_eq_true,zds,zds];omega
 refine List.Perm.eq_of_pairwise (le:=fun a b=>leE a b=true) (fun a b _ _ h1 h2=>?_) (zhR l) (List.pairwise_mergeSort tr tot l) ((zgc l).trans (List.mergeSort_perm l _).symm)
 rw[zds]at h1 h2
 exact Prod.ext (by omega) (by omega)
theorem zr1 {C:zbc} {w:World} {M:Mut} {R:Res} {H:Heap} {id v:Nat} {l:List (Int×Int)} (hh:HR C w M R H) (hb:H[id]?=some (.arr v 2 false (l.map ziU))) (h0:0<l.length) {u:Value} (hu:VR w M R (.osl id v 0 l.length) u):
  ∃g c t,R id v=some g∧(∀v',v<v'→R id v'=none)∧g.sz=2∧w.heap[g.blk]?=some (.cells c t (0,0))∧c.size=g.bs+g.cap* 2∧l.length≤g.cap∧u= .slice (some ⟨g.blk,g.bs,none⟩) l.length g.cap∧(∀(j:Nat) (x:Int×Int),l[j]?=some x→c[g.bs+j* 2]?=some (.int .i64 x.1)∧c[g.bs+j* 2+1]?=some (.int .i64 x.2))∧(∀o,M g.blk o)∧g.blk<w.heap.size:=by
 obtain⟨g,c,t,h1,h2,h3,h4,h5,h6,h7,h8,h9,h10⟩:=hh.blk _ _ hb
 simp only[List.length_map]at h6
 cases hu with
 |osl R _ _ _ _ g' a hg' hle ha=>
 rw[h1]at hg';cases hg'
 have hae:=ha (by omega)
 refine⟨g,c,t,h1,h2,h3,h4,h5,h6,by rw[hae,h3];simp,fun j x hj=>?_,h9 rfl,(aEs.1 h4).1⟩
 have hjl:=(gEs.1 hj).1
 have hlt:g.bs+j* 2<c.size:=by rw[h5];omega
 have hlt1:g.bs+j* 2+1<c.size:=by rw[h5];omega
 have q:=h8 j (ziU x) 0 (.int .i64 x.1) c[g.bs+j* 2] (by rw[gEm,hj];rfl) rfl (by rw[Nat.add_zero];exact Array.getElem?_eq_getElem hlt)
 have q1:=h8 j (ziU x) 1 (.int .i64 x.2) c[g.bs+j* 2+1] (by rw[gEm,hj];rfl) rfl (Array.getElem?_eq_getElem hlt1)
 rw[Array.getElem?_eq_getElem hlt,Array.getElem?_eq_getElem hlt1]
 generalize c[g.bs+j* 2]=z at q
 generalize c[g.bs+j* 2+1]=z1 at q1
 cases q;cases q1
 exact⟨rfl,rfl⟩
theorem zlW {w:World} {b o:Nat} {l:List (Int×Int)} {c:Array Value} {t:TypeId} (hb:w.heap[b]?=some (.cells c t (0,0))) (hc:∀(j:Nat) (x:Int×Int),l[j]?=some x→c[o+j* 2]?=some (.int .i64 x.1)∧c[o+j* 2+1]?=some (.int .i64 x.2)):Sort.HoldsK encE 2 w b o l.toArray:=by
 intro j hj
 rw[Sort.size_flatK]at hj
 have hj2:j/2<l.length:=by simp at hj;omega
 obtain⟨a1,a2⟩:=hc (j/2) l[j/2] (gEg hj2)
 rw[Sort.get_flatK _ _ _ _ hj]
 have e1:(l.toArray)[j/2]! =l[j/2]:=by simp[hj2]
 rw[e1]
 have hm:j % 2=0∨j % 2=1:=by omega
 have key:c[o+j]?=some (encE l[j/2])[j % 2]! :=by
  rcases hm with hm|hm
  .rw[hm,show o+j=o+j/2* 2 by omega,a1];rfl
  .rw[hm,show o+j=o+j/2* 2+1 by omega,a2];rfl
 exact⟨by simp[World.cell?,hb,key],by simp[World.frozen?,hb]⟩
theorem zjw {w:World} {b o:Nat} {F c:Array Value} {t:TypeId} {f:Nat×Nat} (hb:w.heap[b]?=some (.cells c t f)):Sort.putRow id w b o F=w.setRow b (Sort.putCells id o F c):=by
 unfold Sort.putRow Sort.mapBlock World.setRow
 congr 1
 apply Array.ext_getElem?
 intro k
 simp only[Array.getElem?_modify]
 by_cases hk:b=k
 .subst hk;simp[hb,Sort.onCells]
 .simp[hk]
theorem zgV {o:Nat} {F c:Array Value} (k:Nat):(Sort.putCells id o F c)[k]?=if k<c.size then (if o≤k∧k<o+F.size then some F[k - o]! else c[k]?) else none:=by
 unfold Sort.putCells
 rw[Array.getElem?_mapIdx]
 by_cases hk:k<c.size
 .rw[if_pos hk,Array.getElem?_eq_getElem hk]
  simp only[oMs]
  split<;>rfl
 .rw[if_neg hk,Array.getElem?_eq_none (by omega)];rfl
theorem znh {P:Program} {K:Ctx} {w:World} {M:Mut} {R:Res} {H:Heap} {id v:Nat} {l l':List (Int×Int)} (hw:WR (zG P) K w M R H) (hb:H[id]?=some (.arr v 2 false (l.map ziU))) {g:Own} {c:Array Value} {t:TypeId} (hg:R id v=some g) (hgs:g.sz=2) (h4:w.heap[g.blk]?=some (.cells c t (0,0))) (h5:c.size=g.bs+g.cap* 2) (h6:l.length≤g.cap) (hM:∀o,M g.blk o) (hl:l'.length=l.length):
  WR (zG P) K (Sort.putRowK encE 2 w g.blk g.bs l'.toArray) M (zq R id v g) (H.set id (.arr v 2 false (l'.map ziU)))∧Evol R M w (zq R id v g) M (Sort.putRowK encE 2 w g.blk g.bs l'.toArray):=by
 unfold Sort.putRowK
 rw[zjw h4]
 refine hw.set (es':=l'.map ziU) (c':=Sort.putCells _root_.id g.bs (Sort.flatK encE 2 l'.toArray) c) (g1:=g) hb hg h4 (by simp[Sort.putCells]) (fun o y _ hm=>absurd (hM o) hm) (.inr ⟨rfl,rfl⟩) rfl hgs h5 (by simp;omega) (by simp[hl]) (fun i e hi=>?_) (fun i e j x u hi hj hu=>?_)
 .obtain⟨y,_,rfl⟩:=List.mem_map.1 (lMg hi)
  rfl
 .rw[gEm]at hi
  obtain⟨y,h1,rfl⟩:=oMe.1 hi
  have hil:=(gEs.1 h1).1
  have hiy:l'[i]=y:=(gEs.1 h1).2
  have hj2:j<2:=by have:=(gEs.1 hj).1;simpa[AV.cells]using this
  rw[zgV,if_pos (by omega),if_pos (by rw[Sort.size_flatK];simp;omega),Sort.get_flatK _ _ _ _ (by simp;omega),show g.bs+(i* 2+j) - g.bs=i* 2+j by omega,show (i* 2+j)/2=i by omega,show (i* 2+j) % 2=j by omega]at hu
  have e1:(l'.toArray)[i]! =y:=by simp[hil,hiy]
  rw[e1]at hu
  cases hu
  match j,hj2 with
  |0,_=>simp[AV.cells]at hj;subst hj;exact .int _ _ _
  |1,_=>simp[AV.cells]at hj;subst hj;exact .int _ _ _
theorem cmpE (blk off size:Nat) (w:World):CmpLays Tryz.prog 107 #[] encE 2 cfE blk off size w:=
 fun _ _ _ _ x y=>Tryz.closure107 x.1 x.2 y.1 y.2 _
theorem ztM (he:Enters Tryz.prog 106):zeH Tryz.prog 106 zm5:=by
 refine⟨he,fun K w M R H H' args avs v hw hv h=>?_⟩
 unfold zm5 at h
 split at h
 .cases h
  obtain⟨u1,us,rfl,a1,a2⟩:=hv.inv_cons
  obtain⟨u2,us2,rfl,b1,b2⟩:=a2.inv_cons
  have:=b2.inv_nil
  subst this
  cases a1 with
  |isl R _ _ _ a cap b o u hnl hna hcap ha hsz hc hv1=>
  refine CallsIn.mono (callsIn_wide.2 (AnyF.slices_SortFunc_none Tryz.layEdges a cap u2 w)) ?_
  rintro e w' ⟨rfl,rfl⟩
  exact⟨_,rfl,_,_,hw,Evol.refl _ _ _,.tuple _ _ _ rfl (by intro j c u hj;simp at hj)⟩
 .rename_i id ver len
  split at h
  .rename_i v0 es hb
   split at h
   .rename_i hcond
    obtain⟨rfl,rfl,h0⟩:=hcond
    split at h
    .rename_i l hl
     split at h
     .rename_i hll
      cases h
      have:=zeE hl
      subst this
      simp only[List.length_map]at h0 hv
      obtain⟨u1,us,rfl,a1,a2⟩:=hv.inv_cons
      obtain⟨u2,us2,rfl,b1,b2⟩:=a2.inv_cons
      have:=b2.inv_nil
      subst this
      obtain⟨g,c,t,q1,q2,q3,q4,q5,q6,rfl,q8,q9,q10⟩:=zr1 hw.heap hb h0 a1
      have hu2:u2= .func (.func 107) #[] #[]:=by
       cases b1 with
       |clo R f xs ys us vs hs hs' hu hv'=>
        have e1:us=#[]:=Array.eq_empty_of_size_eq_zero (by simpa using hs)
        have e2:vs=#[]:=Array.eq_empty_of_size_eq_zero (by simpa using hs')
        rw[e1,e2]
      subst hu2
      have hH:=zlW q4 q8
      have eg:∀args w,(callFunc 107 args).run Tryz.prog w= .ok (.enter 107 args) w:=enters_of Tryz.func107 (by kernel_rfl) rfl
      have hcon:=AnyQ.slices_SortFunc_total Tryz.layEdges 2 Tryz.isAgg109 Tryz.sizeOf109 encE (fun _=>rfl) (fun x v hv=>by simp[encE]at hv;rcases hv with rfl|rfl<;>rfl) cfE swoE 107 #[] g.blk g.bs g.cap l.toArray w eg (cmpE _ _ _ _) hH q10 (by simp;omega) totE
      refine CallsIn.mono (callsIn_wide.2 hcon) ?_
      rintro e w' ⟨rfl,n,os,rfl⟩
      obtain⟨d1,d2⟩:=Fine.ahead hw n
      rw[←zp4]
      have hlen:(zhS l).length=l.length:=(zgc l).length_eq
      obtain⟨r1,r2⟩:=znh (l':=zhS l) d1 hb q1 q3 q4 q5 q6 q9 hlen
      obtain⟨z1,z2⟩:=r1.belowAll (zem _ os)
      exact⟨_,rfl,_,_,z1,(d2.trans r2).trans z2,.tuple _ _ _ rfl (by intro j c u hj;simp at hj)⟩
     .cases h
    .cases h
   .cases h
  .cases h
 .cases h
end Go.Proofs.YtbddckhdbnmamaaGreat
end
