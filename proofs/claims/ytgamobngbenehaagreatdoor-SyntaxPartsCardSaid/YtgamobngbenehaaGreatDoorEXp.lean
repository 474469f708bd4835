/-
  Functions of the library answer what is said of them (conditions: none). The effects of functions of the library on the call's own memory are what is said of them: strings.Builder, slices.Sort of strings (conditions: none). (*strings.Builder).String, and all that is known of functions of the library (conditions: none).
-/
import Derived.Lib.Builder
import Derived.Lib.UnsafeStr
import Derived.WalkKit
import Derived.Laws.Externs
import Derived.Sort.KeysCollected
import Derived.Lib.SlicesCompact
import Derived.RegionTactic
import Derived.Test.YtgamobngbenehaaGreatDoorCallsp
import Derived.Test.YtgamobngbenehaaGreatDoorShelfp
section
namespace Go.Proofs.YtgamobngbenehaaGreatDoor
open Go Go.RowKit
set_option linter.unusedVariables false
set_option linter.unusedSimpArgs false
theorem zjU {w:World} {M:Mut} (h:GOk w M zag):∃m:Int,w.cell? ⟨0,0,none⟩=some (.int .i64 m):=by
 have h1:=h.1 _ (List.mem_map.2 ⟨(0,[.unk .i64]),by simp[glb],rfl⟩)
 cases h1 with
 |eptr R cs b o u hc hv=>
  have a:=(hc 0 _ rfl).1
  have b:=hv 0 _ rfl
  generalize u 0=x at a b
  cases b with
  |unk R k n=>exact⟨n,a⟩
theorem zi4 (he:Enters Tryz.prog 93):zey Tryz.prog 93 zcZ:=by
 refine⟨he,fun w M args avs v hg hv h=>?_⟩
 obtain⟨m,hm⟩:=zjU hg
 unfold zcZ at h
 split at h
 .rename_i s t
  split at h
  .rename_i hs
   cases h
   obtain⟨u1,us,rfl,a1,a2⟩:=hv.inv_cons
   obtain⟨u2,us2,rfl,b1,b2⟩:=a2.inv_cons
   have:=b2.inv_nil
   subst this
   cases a1;cases b1
   have hc:=Tryz.strings_Contains ⟨s.toArray⟩ ⟨t.toArray⟩ m w hs hm
   refine CallsIn.mono (callsIn_wide.2 hc) ?_
   rintro e w' ⟨rfl,rfl⟩
   exact⟨_,rfl,Below.refl _ _,.bool _ _⟩
  .cases h
 .cases h
theorem zpl:∀i:Fin 100,dec2 i.1=Lib.decDigits i.1:=by decide+kernel
theorem zmk (n:Int):zcr n=Lib.itoa n:=by
 unfold zcr
 split
 .rename_i h
  obtain⟨i,rfl⟩:∃i:Nat,n=i:=⟨n.toNat,by omega⟩
  rw[Lib.itoa_nonneg]
  exact zpl ⟨i,by omega⟩
 .rfl
theorem zhD (w:World) (k:Nat) (os:Array Obj):Below w.heap.size w (Sort.grow (w.drewN k) os):=by
 refine⟨rfl,rfl,rfl,?_,fun j hj=>?_⟩
 .show w.heap.size≤(w.heap++os).size
  simp
 .show (w.heap++os)[j]?=_
  rw[Array.getElem?_append_left hj]
theorem zpG {w:World} {M:Mut} (h:GOk w M zag):Lib.TabIs Tryz.prog w "internal/strconv.uint64pow10" .u64 Lib.pow10Tab:=by
 obtain⟨_,t,f,h1⟩:=h.2 (1,Lib.pow10Tab.map fun z=> .int .u64 z) (by simp[glbO])
 unfold Lib.TabIs World.var?
 rw[show Tryz.prog.globalNamed "internal/strconv.uint64pow10"=some 1 by kernel_rfl]
 simp only[Option.bind_some,h1]
theorem zqz (he:Enters Tryz.prog 53):zey Tryz.prog 53 zml:=by
 refine⟨he,fun w M args avs v hg hv h=>?_⟩
 unfold zml at h
 split at h
 .rename_i n
  split at h
  .rename_i hn
   cases h
   obtain⟨u1,us,rfl,a1,a2⟩:=hv.inv_cons
   have:=a2.inv_nil
   subst this
   cases a1
   have hc:=Tryz.strconv_Itoa n hn.1 hn.2 w (zpG hg)
   refine CallsIn.mono (callsIn_wide.2 hc) ?_
   rintro e w' ⟨rfl,k,os,rfl⟩
   refine⟨_,rfl,zhD w k os,?_⟩
   rw[zmk]
   exact .str _ _
  .cases h
 .cases h
theorem zjx (l:List UInt8):∀n,repL l n=Lib.repeatL l n
 |0=>rfl
 |n+1=>by simp only[repL,Lib.repeatL,zjx l n]
theorem zlU (he:Enters Tryz.prog 108):zey Tryz.prog 108 zfj:=by
 refine⟨he,fun w M args avs v hg hv h=>?_⟩
 unfold zfj at h
 split at h
 .rename_i s n
  split at h
  .rename_i hn
   cases h
   obtain⟨u1,us,rfl,a1,a2⟩:=hv.inv_cons
   obtain⟨u2,us2,rfl,b1,b2⟩:=a2.inv_cons
   have:=b2.inv_nil
   subst this
   cases a1;cases b1
   obtain⟨i,rfl⟩:∃i:Nat,n=i:=⟨n.toNat,by omega⟩
   have hsz:(⟨s.toArray⟩:ByteArray).size=s.length:=by simp[ByteArray.size]
   have hmul:s.length* i≤1048576* 1048576:=Nat.mul_le_mul (by omega) (by omega)
   have hc:=Tryz.strings_Repeat ⟨s.toArray⟩ i w (by omega) (by rw[hsz];omega)
   refine CallsIn.mono (callsIn_wide.2 hc) ?_
   rintro e w' ⟨rfl,hb⟩
   refine⟨_,rfl,hb,?_⟩
   simp only[Int.toNat_natCast,zjx]
   exact .str _ _
  .cases h
 .cases h
theorem zbD:∀{es:List AV} {l:List (List UInt8)},zcF es=some l→es=l.map .str
 | [],l,h=>by simp[zcF]at h;subst h;rfl
 |x::r,l,h=>by
  cases x<;>simp only[zcF]at h<;>try cases h
  obtain⟨l',h1,rfl⟩:=Option.map_eq_some_iff.1 h
  rw[zbD h1];rfl
theorem zfp (sep:List UInt8):∀l,zbw sep l=Lib.join l sep
 | []=>rfl
 | [x]=>by simp[zbw,Lib.join,List.intercalate]
 |x::y::r=>by
  simp only[zbw,zfp sep (y::r)]
  simp[Lib.join,List.intercalate,List.intersperse]
theorem zqy (he:Enters Tryz.prog 52):zey Tryz.prog 52 zmj:=by
 refine⟨he,fun w M args avs v hg hv h=>?_⟩
 unfold zmj at h
 split at h
 .rename_i nl sz es sep
  split at h
  .rename_i l hl
   split at h
   .rename_i hb
    cases h
    have hes:=zbD hl
    subst hes
    obtain⟨u1,us,rfl,a1,a2⟩:=hv.inv_cons
    obtain⟨u2,us2,rfl,b1,b2⟩:=a2.inv_cons
    have:=b2.inv_nil
    subst this
    cases b1
    cases a1 with
    |isl R _ _ _ a cap b o u hnl hna hcap ha hsz hc hv1=>
    cases l with
    |nil=>
     have hc:=Tryz.strings_Join_none a cap ⟨sep.toArray⟩ w
     refine CallsIn.mono (callsIn_wide.2 hc) ?_
     rintro e w' ⟨rfl,rfl⟩
     exact⟨_,rfl,Below.refl _ _,.str _ _⟩
    |cons x r=>
     have hae:=ha (by simp)
     subst hae
     have hsz1:sz=1:=(hsz 0 (.str x) rfl).symm
     subst hsz1
     have hcell:∀(j:Nat) (y:List UInt8),(x::r)[j]?=some y→w.cell? ⟨b,o+j,none⟩=some (.string ⟨y.toArray⟩):=by
      intro j y hj
      have h1:((x::r).map AV.str)[j]?=some (.str y):=by rw[List.getElem?_map,hj];rfl
      have h2:=hc j _ 0 _ h1 rfl
      have h3:=hv1 j _ 0 _ h1 rfl
      rw[Nat.mul_one,Nat.add_zero]at h2
      generalize u j 0=q at h2 h3
      cases h3
      exact h2.1
     have hlt:b<w.heap.size:=zaS (hcell 0 x rfl)
     have hmap:((x::r).map fun y=>(⟨y.toArray⟩:ByteArray)).map (·.data.toList)=x::r:=by
      rw[List.map_map]
      conv=>rhs;rw[←List.map_id (x::r)]
      apply List.map_congr_left
      intro y _;simp
     have hlen:((x::r).map AV.str).length=((x::r).map fun y=>(⟨y.toArray⟩:ByteArray)).length:=by simp
     have hc':=Tryz.strings_Join b o cap ((x::r).map fun y=>⟨y.toArray⟩) ⟨sep.toArray⟩ w (fun j y hj=>by
      rw[List.getElem?_map]at hj
      obtain⟨z,h1,rfl⟩:=Option.map_eq_some_iff.1 hj
      exact hcell j z h1) hlt (by have:=hb.2;simp at this⊢;omega) (by simpa using hcap) (by
      rw[hmap]
      have:=hb.1
      rw[zfp]at this
      simpa using (by omega:(Lib.join (x::r) sep).length≤140737488355328))
     rw[←hlen,hmap]at hc'
     refine CallsIn.mono (callsIn_wide.2 hc') ?_
     rintro e w' ⟨rfl,hb'⟩
     refine⟨_,rfl,hb',?_⟩
     rw[zfp]
     exact .str _ _
   .cases h
  .cases h
 .cases h
end Go.Proofs.YtgamobngbenehaaGreatDoor
end
section
namespace Go.Proofs.YtgamobngbenehaaGreatDoor
open Go Go.RowKit
set_option linter.unusedVariables false
set_option linter.unusedSimpArgs false
theorem znJ:Tryz.prog.underlying 85=some (.pointer 87):=by kernel_rfl
theorem znd:Tryz.prog.underlying 164=some .unsafePointer:=by kernel_rfl
theorem zpF:Tryz.prog.underlying 136=some (.pointer 5):=by kernel_rfl
theorem zqC:∃j,Tryz.prog.info? 87=some j∧j.size=2:=by
 have h:(Tryz.prog.info? 87).map (·.size)=some 2:=by kernel_rfl
 obtain⟨j,hj,hjs⟩:=Option.map_eq_some_iff.1 h
 exact⟨j,hj,hjs⟩
set_option maxHeartbeats 1000000 in
set_option maxRecDepth 100000 in
theorem zk4 (b o:Nat) (w:World) (h0:w.cell? ⟨b,o,none⟩=some (.pointer (some ⟨b,o,none⟩))):
  Calls Tryz.prog 91 #[.pointer (some ⟨b,o,none⟩)] w fun e w'=>e= .returned (.tuple #[])∧w'=w:=by
 obtain⟨j,hj,_⟩:=zqC
 go_enter Tryz.func91,Tryz.ntmps91
 go_wp2
 rw[Lib.run_neq_ptr_same w _ znJ hj]
 go_wp2
 go_end0
 exact⟨rfl,rfl⟩
set_option maxHeartbeats 1000000 in
set_option maxRecDepth 100000 in
theorem zi3 (b o:Nat) (t:TypeId) (n:Nat) (w:World) (h0:w.cell? ⟨b,o,none⟩=some (.pointer none)) (hsh:w.shape? b=some (t,n)) (ho:o<n) (hfz:w.frozen? ⟨b,o,none⟩=false)
  (hlies:liesAt Tryz.prog Tryz.prog.depth t (n/Tryz.prog.cellsOf t) o 87 1=true):
  Calls Tryz.prog 91 #[.pointer (some ⟨b,o,none⟩)] w fun e w'=>e= .returned (.tuple #[])∧w'=w.setCell ⟨b,o,none⟩ (.pointer (some ⟨b,o,none⟩)):=by
 obtain⟨j,hj,hjs⟩:=zqC
 go_enter Tryz.func91,Tryz.ntmps91
 go_wp2
 rw[Lib.run_to_unsafe w ⟨b,o,none⟩ znJ znd hj (by rw[hjs];decide) hsh ho]
 simp only[Result.andThen]
 rw[Oper.upon_value]
 go_wp2
 rw[run_callFunc_extern (P:=Tryz.prog) Tryz.func141 (by kernel_rfl) (by kernel_rfl) (by kernel_rfl) (e:=Extern.AbiNoEscape.same) (by kernel_rfl)]
 rw[Lib.run_noEscape]
 simp only[Result.andThen]
 rw[Oper.upon_value]
 go_wp2
 rw[Lib.run_from_unsafe w ⟨b,o,none⟩ znd znJ hj hsh hlies]
 simp only[Result.andThen]
 rw[Oper.upon_value]
 go_wp2
 go_end0
 exact⟨rfl,rfl⟩
theorem zg7 {w:World} {b o:Nat} {c:Array Value} {t:TypeId} {f:Nat×Nat} (hb:w.heap[b]?=some (.cells c t f)) (v:Value):w.setCell ⟨b,o,none⟩ v=w.setRow b (c.setIfInBounds o v):=by
 unfold World.setCell World.setRow
 congr 1
 apply Array.ext_getElem?
 intro k
 simp only[Array.getElem?_modify]
 by_cases hk:b=k
 .subst hk;simp[hb]
 .simp[hk]
theorem zqV (he:Enters Tryz.prog 91):zdy Tryz.prog 91 zhA:=by
 refine⟨he,fun K w M R H H' args avs v hw hv h=>?_⟩
 unfold zhA at h
 split at h
 .rename_i id off
  split at h
  .rename_i t cs hb
   split at h
   .rename_i hin
    obtain⟨u1,us,rfl,a1,a2⟩:=hv.inv_cons
    have:=a2.inv_nil
    subst this
    obtain⟨g,c,b1,b2,b3,b4,b5,b6⟩:=hw.heap.blk _ _ hb
    cases a1 with
    |bptr R _ _ g' hg'=>
    rw[b1]at hg';cases hg'
    split at h
    .rename_i hc0
     cases h
     have hol:off<cs.length:=(gEs.1 hc0).1
     have hoc:off<c.size:=by omega
     have hcv:c[off]?=some (.pointer none):=by
      have h1:=b5 off .nilp _ hc0 (Array.getElem?_eq_getElem hoc)
      rw[Array.getElem?_eq_getElem hoc]
      generalize c[off]=q at h1
      cases h1;rfl
     have hlies:liesAt Tryz.prog Tryz.prog.depth t (c.size/Tryz.prog.cellsOf t) off 87 1=true:=by
      rw[b4]
      simp only[zfH,List.contains_iff_mem,List.mem_cons,Prod.mk.injEq,List.not_mem_nil,or_false]at hin
      rcases hin with⟨h1,h2,h3⟩|⟨h1,h2,h3⟩<;>rw[h1,h2,h3]<;>kernel_rfl
     have hc:=zi3 g.blk off t c.size w (by simp[World.cell?,b3,hcv]) (by simp[World.shape?,b3]) hoc (by simp[World.frozen?,b3]) hlies
     refine CallsIn.mono (callsIn_wide.2 hc) ?_
     rintro e w' ⟨rfl,rfl⟩
     rw[zg7 b3]
     obtain⟨r1,r2⟩:=hw.setBx (cs':=cs.set off (.bptr id off)) (c':=c.setIfInBounds off (.pointer (some ⟨g.blk,off,none⟩))) hb b1 b3 (by simp[b4]) (fun j x u hj hu=>by
      by_cases hjo:j=off
      .subst hjo
       rw[gEt hol]at hj
       rw[Array.getElem?_setIfInBounds_self_of_lt hoc]at hu
       cases hj;cases hu
       exact .bptr _ _ _ g b1
      .rw[gEn (fun e=>hjo e.symm)]at hj
       rw[Array.getElem?_setIfInBounds_ne (fun e=>hjo e.symm)]at hu
       exact b5 j x u hj hu)
     exact⟨_,rfl,_,_,r1,r2,.tuple _ _ _ rfl (by intro j c u hj;simp at hj)⟩
    .rename_i id' off' hc0
     split at h
     .rename_i hcond
      obtain⟨rfl,rfl⟩:=hcond
      cases h
      have hol:off'<cs.length:=(gEs.1 hc0).1
      have hoc:off'<c.size:=by omega
      have hcv:c[off']?=some (.pointer (some ⟨g.blk,off',none⟩)):=by
       have h1:=b5 off' _ _ hc0 (Array.getElem?_eq_getElem hoc)
       rw[Array.getElem?_eq_getElem hoc]
       generalize c[off']=q at h1
       cases h1 with
       |bptr R _ _ g2 hg2=>rw[b1]at hg2;cases hg2;rfl
      have hc:=zk4 g.blk off' w (by simp[World.cell?,b3,hcv])
      refine CallsIn.mono (callsIn_wide.2 hc) ?_
      rintro e w' ⟨rfl,rfl⟩
      exact⟨_,rfl,_,_,hw,Evol.refl _ _ _,.tuple _ _ _ rfl (by intro j c u hj;simp at hj)⟩
     .cases h
    .cases h
   .cases h
  .cases h
 .cases h
theorem zjm {C:zaT} {w:World} {M:Mut} {R:Res} {H:Heap} {id v:Nat} {l:List (List UInt8)} (hh:HR C w M R H) (hb:H[id]?=some (.arr v 1 false (l.map .str))) (h0:0<l.length) {u:Value} (hu:VR w M R (.osl id v 0 l.length) u):
  ∃g c t,R id v=some g∧(∀v',v<v'→R id v'=none)∧g.sz=1∧w.heap[g.blk]?=some (.cells c t (0,0))∧c.size=g.bs+g.cap* 1∧l.length≤g.cap∧u= .slice (some ⟨g.blk,g.bs,none⟩) l.length g.cap∧(∀(j:Nat) (x:List UInt8),l[j]?=some x→c[g.bs+j]?=some (.string ⟨x.toArray⟩))∧(∀o,M g.blk o)∧g.blk<w.heap.size:=by
 obtain⟨g,c,t,h1,h2,h3,h4,h5,h6,h7,h8,h9,h10⟩:=hh.blk _ _ hb
 simp only[List.length_map]at h6
 cases hu with
 |osl R _ _ _ _ g' a hg' hle ha=>
 rw[h1]at hg';cases hg'
 have hae:=ha (by omega)
 refine⟨g,c,t,h1,h2,h3,h4,h5,h6,by rw[hae,h3];simp,fun j x hj=>?_,h9 rfl,(Array.getElem?_eq_some_iff.1 h4).1⟩
 have hjl:=(gEs.1 hj).1
 have hlt:g.bs+j<c.size:=by rw[h5];omega
 have q:=h8 j (.str x) 0 (.str x) c[g.bs+j] (by rw[List.getElem?_map,hj];rfl) rfl (by rw[Nat.mul_one,Nat.add_zero];exact Array.getElem?_eq_getElem hlt)
 rw[Array.getElem?_eq_getElem hlt]
 generalize c[g.bs+j]=z at q
 cases q;rfl
theorem zgs {w:World} {b o:Nat} {l:List (List UInt8)} {c:Array Value} {t:TypeId} (hb:w.heap[b]?=some (.cells c t (0,0))) (hc:∀(j:Nat) (x:List UInt8),l[j]?=some x→c[o+j]?=some (.string ⟨x.toArray⟩)):Sort.Holds encStr w b o l.toArray:=by
 intro j hj
 have hj':j<l.length:=by simpa using hj
 have h1:=hc j l[j] (gEg hj')
 have h2:(l.toArray)[j]! =l[j]:=by simp[hj']
 rw[h2]
 exact⟨by simp[World.cell?,hb,h1,encStr],by simp[World.frozen?,hb]⟩
theorem zgq (x:List UInt8) (l:List (List UInt8)):(insS x l).Perm (x::l):=by
 induction l with
 |nil=>exact List.Perm.refl _
 |cons y r ih=>
  simp only[insS]
  split
  .exact List.Perm.refl _
  .exact (ih.cons y).trans (List.Perm.swap x y r)
theorem zeD (l:List (List UInt8)):(zcp l).Perm l:=by
 induction l with
 |nil=>exact List.Perm.refl _
 |cons x r ih=>exact (zgq x (zcp r)).trans (ih.cons x)
theorem zhk {x:List UInt8} {l:List (List UInt8)} (h:l.Pairwise (fun a b=>leB a b=true)):(insS x l).Pairwise (fun a b=>leB a b=true):=by
 induction l with
 |nil=>simp[insS]
 |cons y r ih=>
  simp only[insS]
  obtain⟨h1,h2⟩:=List.pairwise_cons.1 h
  split
  .rename_i hxy
   refine List.pairwise_cons.2 ⟨fun z hz=>?_,h⟩
   rcases List.mem_cons.1 hz with rfl|hz
   .simpa[leB]using hxy
   .have:=h1 z hz
    simp only[leB,decide_eq_true_eq]at this⊢
    exact List.le_trans hxy this
  .rename_i hxy
   refine List.pairwise_cons.2 ⟨fun z hz=>?_,ih h2⟩
   have:=(zgq x r).mem_iff.1 hz
   rcases List.mem_cons.1 this with rfl|hz
   .simp only[leB,decide_eq_true_eq]
    rcases List.le_total y z with h|h
    .exact h
    .exact absurd h hxy
   .exact h1 z hz
theorem zfS (l:List (List UInt8)):(zcp l).Pairwise (fun a b=>leB a b=true):=by
 induction l with
 |nil=>exact List.Pairwise.nil
 |cons x r ih=>exact zhk ih
theorem zlH (l:List (List UInt8)):zcp l=l.mergeSort fun x y=>decide (x≤y):=by
 have tr:∀a b c:List UInt8,leB a b=true→leB b c=true→leB a c=true:=fun a b c h1 h2=>by simp only[leB,decide_eq_true_eq]at *;exact List.le_trans h1 h2
 have tot:∀a b:List UInt8,(leB a b||leB b a)=true:=fun a b=>by simp only[leB,Bool.or_eq_true,decide_eq_true_eq];exact List.le_total a b
 refine List.Perm.eq_of_pairwise (le:=fun a b=>leB a b=true) (fun a b _ _ h1 h2=>?_) (zfS l) (List.pairwise_mergeSort tr tot l) ((zeD l).trans (List.mergeSort_perm l _).symm)
 simp only[leB,decide_eq_true_eq]at h1 h2
 exact List.le_antisymm h1 h2
theorem ziB {w:World} {b o:Nat} {l:List (List UInt8)} {c:Array Value} {t:TypeId} {f:Nat×Nat} (hb:w.heap[b]?=some (.cells c t f)):Sort.putRow encStr w b o l.toArray=w.setRow b (Sort.putCells encStr o l.toArray c):=by
 unfold Sort.putRow Sort.mapBlock World.setRow
 congr 1
 apply Array.ext_getElem?
 intro k
 simp only[Array.getElem?_modify]
 by_cases hk:b=k
 .subst hk;simp[hb,Sort.onCells]
 .simp[hk]
theorem zf1 {o:Nat} {l:List (List UInt8)} {c:Array Value} (k:Nat):(Sort.putCells encStr o l.toArray c)[k]?=if k<c.size then (if o≤k∧k<o+l.length then (l[k - o]?).map encStr else c[k]?) else none:=by
 unfold Sort.putCells
 rw[Array.getElem?_mapIdx]
 by_cases hk:k<c.size
 .rw[if_pos hk,Array.getElem?_eq_getElem hk]
  simp only[Option.map_some,List.size_toArray]
  split
  .rename_i h
   have h2:k - o<l.length:=by omega
   simp[h2]
  .rfl
 .rw[if_neg hk,Array.getElem?_eq_none (by omega)];rfl
theorem Fine.ahead {P:Program} {K:Ctx} {w:World} {M:Mut} {R:Res} {H:Heap} (hw:WR (zq P) K w M R H) (n:Nat):WR (zq P) K (Sort.ahead w n) M R H∧Evol R M w R M (Sort.ahead w n):=hw.same rfl rfl rfl rfl
theorem zi7 (w:World) (os:Array Obj):Below w.heap.size w (Sort.grow w os):=by
 refine⟨rfl,rfl,rfl,by simp[Sort.grow],fun k hk=>?_⟩
 simp only[Sort.grow]
 rw[Array.getElem?_append_left hk]
theorem zhT {P:Program} {K:Ctx} {w:World} {M:Mut} {R:Res} {H:Heap} {id v:Nat} {l l':List (List UInt8)} (hw:WR (zq P) K w M R H) (hb:H[id]?=some (.arr v 1 false (l.map .str))) {g:Own} {c:Array Value} {t:TypeId} (hg:R id v=some g) (hgs:g.sz=1) (h4:w.heap[g.blk]?=some (.cells c t (0,0))) (h5:c.size=g.bs+g.cap* 1) (h6:l.length≤g.cap) (hM:∀o,M g.blk o) (hl:l'.length=l.length):
  WR (zq P) K (Sort.putRow encStr w g.blk g.bs l'.toArray) M (zm R id v g) (H.set id (.arr v 1 false (l'.map .str)))∧Evol R M w (zm R id v g) M (Sort.putRow encStr w g.blk g.bs l'.toArray):=by
 rw[ziB h4]
 refine hw.set (es':=l'.map .str) (c':=Sort.putCells encStr g.bs l'.toArray c) (g1:=g) hb hg h4 (by simp[Sort.putCells]) (fun o y _ hm=>absurd (hM o) hm) (.inr ⟨rfl,rfl⟩) rfl hgs h5 (by simp;omega) (by simp[hl]) (fun i e hi=>?_) (fun i e j x u hi hj hu=>?_)
 .obtain⟨y,_,rfl⟩:=List.mem_map.1 (List.mem_of_getElem? hi)
  rfl
 .rw[List.getElem?_map]at hi
  obtain⟨y,h1,rfl⟩:=Option.map_eq_some_iff.1 hi
  cases j with
  |succ j=>simp[AV.cells]at hj
  |zero=>
   simp[AV.cells]at hj
   subst hj
   have hil:=(gEs.1 h1).1
   rw[Nat.mul_one,Nat.add_zero,zf1,if_pos (by omega),if_pos (by omega),show g.bs+i - g.bs=i by omega,h1]at hu
   cases hu
   exact .str _ _
theorem zpJ (he:Enters Tryz.prog 273):zdy Tryz.prog 273 zjo:=by
 refine⟨he,fun K w M R H H' args avs v hw hv h=>?_⟩
 unfold zjo at h
 split at h
 .cases h
  obtain⟨u1,us,rfl,a1,a2⟩:=hv.inv_cons
  have:=a2.inv_nil
  subst this
  cases a1 with
  |isl R _ _ _ a cap b o u hnl hna hcap ha hsz hc hv1=>
  refine CallsIn.mono (callsIn_wide.2 (Tryz.slices_Sort_string_none a cap w)) ?_
  rintro e w' ⟨rfl,rfl⟩
  exact⟨_,rfl,_,_,hw,Evol.refl _ _ _,.tuple _ _ _ rfl (by intro j c u hj;simp at hj)⟩
 .rename_i id ver len
  split at h
  .rename_i v0 es hb
   split at h
   .rename_i hcond
    obtain⟨rfl,rfl,h0⟩:=hcond
    split at h
    .rename_i l hl
     split at h
     .rename_i hll
      cases h
      have:=zbD hl
      subst this
      simp only[List.length_map]at h0 hv
      obtain⟨u1,us,rfl,a1,a2⟩:=hv.inv_cons
      have:=a2.inv_nil
      subst this
      obtain⟨g,c,t,q1,q2,q3,q4,q5,q6,rfl,q8,q9,q10⟩:=zjm hw.heap hb h0 a1
      have hH:=zgs q4 q8
      refine CallsIn.mono (callsIn_wide.2 (Tryz.slices_Sort_string g.blk g.bs g.cap l w hH q10 (by omega))) ?_
      rintro e w' ⟨rfl,n,os,rfl⟩
      obtain⟨d1,d2⟩:=Fine.ahead hw n
      rw[←zlH]
      have hlen:(zcp l).length=l.length:=(zeD l).length_eq
      obtain⟨r1,r2⟩:=zhT (l':=zcp l) d1 hb q1 q3 q4 q5 q6 q9 hlen
      obtain⟨z1,z2⟩:=r1.belowAll (zi7 _ os)
      exact⟨_,rfl,_,_,z1,(d2.trans r2).trans z2,.tuple _ _ _ rfl (by intro j c u hj;simp at hj)⟩
     .cases h
    .cases h
   .cases h
  .cases h
 .cases h
theorem ze3:∀(l:List (List UInt8)) (x:List UInt8),zab (l++[x])=zab l++(if l=[]∨l.getLast?≠some x then [x] else [])
 | [],x=>by simp[zab]
 | [y],x=>by
  by_cases h:y=x
  .subst h;simp[zab]
  .simp[zab,h]
 |y::z::r,x=>by
  have ih:=ze3 (z::r) x
  simp only[List.cons_append]at ih⊢
  by_cases h:y=z
  .subst h
   simp only[zab,if_true]
   rw[ih];simp
  .simp only[zab,if_neg h]
   rw[ih];simp
theorem zmU (zs:List (List UInt8)):zab zs=Lib.compact zs:=by
 have key:∀m,m≤zs.length→Lib.compactUpTo zs.toArray m=zab (zs.take m):=by
  intro m
  induction m with
  |zero=>intro _;simp[Lib.compactUpTo,zab]
  |succ m ih=>
   intro hm
   have hm':m<zs.length:=by omega
   rw[Lib.compactUpTo_succ,ih (by omega),List.take_succ_eq_append_getElem hm',ze3]
   congr 1
   have e1:zs.toArray[m]! =zs[m]:=by simp[hm']
   rw[e1]
   cases m with
   |zero=>simp[Lib.keeps]
   |succ k=>
    have hk:k<zs.length:=by omega
    have e2:zs.toArray[k+1 - 1]! =zs[k]:=by simp[hk]
    have e3:(zs.take (k+1)).getLast?=some zs[k]:=by
     rw[List.take_succ_eq_append_getElem hk,List.getLast?_append];rfl
    have e4:zs.take (k+1)≠[]:=by
     intro h;rw[h]at e3;cases e3
    simp only[Lib.keeps,e1,e2,e3,e4,false_or,Nat.succ_ne_zero,ne_eq,Option.some.injEq]
    by_cases h:zs[k]=zs[k+1]
    .simp[h]
    .have h':¬zs[k+1]=zs[k]:=fun e=>h e.symm
     simp[h,h']
 have:=key zs.length (Nat.le_refl _)
 rw[List.take_length]at this
 exact this.symm
theorem zc0 (l:List (List UInt8)):(zab l).length≤l.length:=by
 induction l with
 |nil=>simp[zab]
 |cons x r ih=>
  cases r with
  |nil=>simp[zab]
  |cons y r=>
   simp only[zab]
   split
   .simp only[List.length_cons]at ih⊢;omega
   .simp only[List.length_cons]at ih⊢;omega
theorem zqX (he:Enters Tryz.prog 274):zdy Tryz.prog 274 zk5:=by
 refine⟨he,fun K w M R H H' args avs v hw hv h=>?_⟩
 unfold zk5 at h
 split at h
 .cases h
  obtain⟨u1,us,rfl,a1,a2⟩:=hv.inv_cons
  have:=a2.inv_nil
  subst this
  cases a1 with
  |isl R _ _ _ a cap b o u hnl hna hcap ha hsz hc hv1=>
  refine CallsIn.mono (callsIn_wide.2 (Tryz.slices_Compact_string_empty a cap w)) ?_
  rintro e w' ⟨rfl,rfl⟩
  exact⟨_,rfl,_,_,hw,Evol.refl _ _ _,.isl _ _ _ [] a cap b o u hnl hna hcap ha hsz hc hv1⟩
 .rename_i id ver len
  split at h
  .rename_i v0 es hb
   split at h
   .rename_i hcond
    obtain⟨rfl,rfl,h0⟩:=hcond
    split at h
    .rename_i l hl
     split at h
     .rename_i hll
      cases h
      have:=zbD hl
      subst this
      simp only[List.length_map]at h0 hv
      obtain⟨u1,us,rfl,a1,a2⟩:=hv.inv_cons
      have:=a2.inv_nil
      subst this
      obtain⟨g,c,t,q1,q2,q3,q4,q5,q6,rfl,q8,q9,q10⟩:=zjm hw.heap hb h0 a1
      have hH:=zgs q4 q8
      refine CallsIn.mono (callsIn_wide.2 (Tryz.slices_Compact_string g.blk g.bs g.cap l w hH (by omega) q6)) ?_
      rintro e w' ⟨rfl,n,rfl⟩
      obtain⟨d1,d2⟩:=Fine.ahead hw n
      rw[←zmU]
      have hcl:=zc0 l
      have hlen:(zab l++List.replicate (l.length - (zab l).length) []).length=l.length:=by simp;omega
      obtain⟨r1,r2⟩:=zhT (l':=zab l++List.replicate (l.length - (zab l).length) []) d1 hb q1 q3 q4 q5 q6 q9 hlen
      refine⟨_,rfl,_,_,r1,d2.trans r2,?_⟩
      have key:=VR.osl (w:=Sort.putRow encStr (Sort.ahead w n) g.blk g.bs (zab l++List.replicate (l.length - (zab l).length) []).toArray) (M:=M) (zm R id v0 g) id v0 0 (zab l).length g ⟨g.blk,g.bs,none⟩ (by simp[zm]) (by omega) (by simp)
      simpa using key
     .cases h
    .cases h
   .cases h
  .cases h
 .cases h
end Go.Proofs.YtgamobngbenehaaGreatDoor
end
section
namespace Go.Proofs.YtgamobngbenehaaGreatDoor
open Go Go.RowKit
set_option linter.unusedVariables false
set_option linter.unusedSimpArgs false
set_option maxHeartbeats 2000000 in
set_option maxRecDepth 100000 in
theorem znL (b o:Nat) (w:World) (h1:w.cell? ⟨b,o+1,none⟩=some (.slice none 0 0)):
  Calls Tryz.prog 38 #[.pointer (some ⟨b,o,none⟩)] w fun e w'=>e= .returned (.string ⟨#[]⟩)∧w'=w.drew:=by
 have hUS:∀(W:World) (q:Option Addr),(Builtin.unsafeString_ #[136,3] 9 #[.pointer q,.int .i64 0]).run Tryz.prog W= .ok (.string .empty) W:=fun W q=>Lib.run_unsafeString_none W _ _ _ q
 have c1:w.drew.cell? ⟨b,o+1,none⟩=some (.slice none 0 0):=h1
 have hSD:(Builtin.unsafeSliceData_ #[32] 136 #[.slice none 0 0]).run Tryz.prog w.drew= .ok (.pointer none) w.drew:=rfl
 go_enter Tryz.func38,Tryz.ntmps38
 go_wp2
 go_region
 all_goals (go_wp2;go_ret;exact⟨rfl,rfl⟩)
set_option maxHeartbeats 2000000 in
set_option maxRecDepth 100000 in
theorem zlF (b o g cap:Nat) (cur:Array Value) (l:List UInt8) (h0:l≠[]) (w:World) (h1:w.cell? ⟨b,o+1,none⟩=some (.slice (some ⟨g,0,none⟩) l.length cap)) (hg:w.heap[g]?=some (.cells cur 5 (0,0))) (hcap:cap≠0) (hlc:l.length≤cur.size) (hm:l.length≤9223372036854775807)
  (hcell:∀(j:Nat) (x:UInt8),l[j]?=some x→cur[j]?=some (.int .u8 x.toNat)):
  Calls Tryz.prog 38 #[.pointer (some ⟨b,o,none⟩)] w fun e w'=>e= .returned (.string ⟨l.toArray⟩)∧w'=w.drew.freeze ⟨g,0,none⟩ l.length:=by
 have c1:w.drew.cell? ⟨b,o+1,none⟩=some (.slice (some ⟨g,0,none⟩) l.length cap):=h1
 have hSD:(Builtin.unsafeSliceData_ #[32] 136 #[.slice (some ⟨g,0,none⟩) l.length cap]).run Tryz.prog w.drew= .ok (.pointer (some ⟨g,0,none⟩)) w.drew:=Lib.run_unsafeSliceData_row _ _ _ _ _ _ hcap
 have hUS:(Builtin.unsafeString_ #[136,3] 9 #[.pointer (some ⟨g,0,none⟩),.int .i64 l.length]).run Tryz.prog w.drew= .ok (.string ⟨l.toArray⟩) (w.drew.freeze ⟨g,0,none⟩ l.length):=by
  refine Lib.run_unsafeString_row w.drew 136 3 9 5 zpF (by kernel_rfl) g cur.size (by have hg':w.drew.heap[g]?=some (.cells cur 5 (0,0)):=hg;simp[World.shape?,hg']) l h0 hlc hm ?_
  intro j x hx
  rw[zat,Nat.zero_add]
  have hg':w.drew.heap[g]?=some (.cells cur 5 (0,0)):=hg
  simp[World.cell?,hg',hcell j x hx]
 go_enter Tryz.func38,Tryz.ntmps38
 go_wp2
 go_region
 all_goals (go_wp2;go_ret;exact⟨rfl,rfl⟩)
theorem zrf (he:Enters Tryz.prog 38):zdy Tryz.prog 38 strM:=by
 refine⟨he,fun K w M R H H' args avs v hw hv h=>?_⟩
 unfold strM at h
 split at h
 .rename_i id off
  split at h
  .rename_i t cs hb
   split at h
   .rename_i hin
    obtain⟨u1,us,rfl,a1,a2⟩:=hv.inv_cons
    have:=a2.inv_nil
    subst this
    obtain⟨g,c,b1,b2,b3,b4,b5,b6⟩:=hw.heap.blk _ _ hb
    cases a1 with
    |bptr R _ _ g' hg'=>
    rw[b1]at hg';cases hg'
    split at h
    .rename_i nsz hc0
     cases h
     have hol:off+1<cs.length:=(gEs.1 hc0).1
     have hoc:off+1<c.size:=by omega
     have hcv:c[off+1]?=some (.slice none 0 0):=by
      have h1:=b5 (off+1) _ _ hc0 (Array.getElem?_eq_getElem hoc)
      rw[Array.getElem?_eq_getElem hoc]
      generalize c[off+1]=q at h1
      cases h1 with
      |isl R _ _ _ a cap b o u hnl hna hcap ha hsz hc hv1=>
       have hnone:a=none:=by have:=hnl true rfl;simpa using this
       subst hnone
       obtain⟨_,rfl⟩:=hna rfl
       rfl
     refine CallsIn.mono (callsIn_wide.2 (znL g.blk off w (by simp[World.cell?,b3,hcv]))) ?_
     rintro e w' ⟨rfl,rfl⟩
     obtain⟨d1,d2⟩:=hw.same (w':=w.drew) rfl rfl rfl rfl
     exact⟨_,rfl,_,_,d1,d2,.str _ _⟩
    .rename_i bid ver len hc0
     split at h
     .rename_i v0 l hbb
      split at h
      .rename_i hcond
       obtain⟨rfl,rfl,hpos,hle⟩:=hcond
       cases h
       obtain⟨g2,c2,k1,k2,k3,k4,k5,k6,k7⟩:=hw.heap.blk _ _ hbb
       have hol:off+1<cs.length:=(gEs.1 hc0).1
       have hoc:off+1<c.size:=by omega
       have hcv:c[off+1]?=some (.slice (some ⟨g2.blk,0,none⟩) l.length g2.cap):=by
        have h1:=b5 (off+1) _ _ hc0 (Array.getElem?_eq_getElem hoc)
        rw[Array.getElem?_eq_getElem hoc]
        generalize c[off+1]=q at h1
        cases h1 with
        |bys R _ _ _ g3 hg3 hle=>rw[k1]at hg3;cases hg3;rfl
       refine CallsIn.mono (callsIn_wide.2 (zlF g.blk off g2.blk g2.cap c2 l (fun e=>by subst e;cases hpos) w (by simp[World.cell?,b3,hcv]) k3 (by omega) (by omega) (by omega) k6)) ?_
       rintro e w' ⟨rfl,rfl⟩
       obtain⟨d1,d2⟩:=hw.same (w':=w.drew) rfl rfl rfl rfl
       have hfz:(w.drew.freeze ⟨g2.blk,0,none⟩ l.length)={w.drew with heap:=w.drew.heap.modify g2.blk fun| .cells c elem (lo,hi)=> .cells c elem (if lo==hi then (0,0+l.length) else (min lo 0,max hi (0+l.length)))|o=>o}:=by
        unfold World.freeze
        rw[if_neg (by omega)]
        rfl
       obtain⟨z1,z2⟩:=d1.killB (w':=w.drew.freeze ⟨g2.blk,0,none⟩ l.length) (f':=(0,0+l.length)) hbb k1 k2 (t:=zaZ) (c:=c2) (f:=(0,0)) k3 (by
        rw[hfz]
        have hk:w.drew.heap[g2.blk]?=some (.cells c2 zaZ (0,0)):=k3
        simp only[Array.getElem?_modify,if_true,hk,Option.map_some]
        rfl) (by rw[hfz];simp) (fun k hk=>by rw[hfz];simp only[Array.getElem?_modify];rw[if_neg (fun e=>hk e.symm)]) (by rw[hfz]) (by rw[hfz]) (by rw[hfz])
       exact⟨_,rfl,_,_,z1,d2.trans z2,.str _ _⟩
      .cases h
     .cases h
    .cases h
   .cases h
  .cases h
 .cases h
theorem zsY:∀f g,ext f=some g→zey Tryz.prog f g:=by
 intro f g h
 unfold ext at h
 split at h
 .rename_i e;subst e;cases h
  exact zi4 (enters_of Tryz.func93 (by kernel_rfl) rfl)
 .split at h
  .rename_i e;subst e;cases h
   exact zqz (enters_of Tryz.func53 (by kernel_rfl) rfl)
  .split at h
   .rename_i e;subst e;cases h
    exact zlU (enters_of Tryz.func108 (by kernel_rfl) rfl)
   .split at h
    .rename_i e;subst e;cases h
     exact zqy (enters_of Tryz.func52 (by kernel_rfl) rfl)
    .cases h
theorem zqH:∀f g,extM f=some g→zdy Tryz.prog f g:=by
 intro f g h
 unfold extM at h
 split at h
 .rename_i e;subst e;cases h
  exact zqV (enters_of Tryz.func91 (by kernel_rfl) rfl)
 .split at h
  .rename_i e;subst e;cases h
   exact zrf (enters_of Tryz.func38 (by kernel_rfl) rfl)
  .split at h
   .rename_i e;subst e;cases h
    exact zpJ (enters_of Tryz.func273 (by kernel_rfl) rfl)
   .split at h
    .rename_i e;subst e;cases h
     exact zqX (enters_of Tryz.func274 (by kernel_rfl) rfl)
    .cases h
end Go.Proofs.YtgamobngbenehaaGreatDoor
end
