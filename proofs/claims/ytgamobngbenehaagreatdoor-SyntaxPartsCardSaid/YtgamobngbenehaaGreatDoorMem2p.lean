/-
  More operations: min, make, clear, maps (conditions: none).
-/
import Derived.Laws.MakeOwn
import Derived.Lib.MinMax
import Derived.Lib.AppendZeros
import Derived.Lib.OthersKept
import Derived.Laws.RangeString
import Derived.MapKept
import Derived.ChangeKeysEq
import Derived.Laws.IdiomStrings
import Derived.Test.YtgamobngbenehaaGreatDoorObjp
namespace Go.Proofs.YtgamobngbenehaaGreatDoor
open Go Go.RowKit
set_option linter.unusedVariables false
set_option linter.unusedSimpArgs false
section mem2
variable {P:Program} {C:zaT} {K:Ctx} {w:World} {M:Mut} {R:Res} {H:Heap}
theorem zp2 {t:TypeId} {ts:Array TypeId} {ty:TypeId} {x z:AV} {v:Value} (hx:VR w M R x v) (hz:zmW x=z) (hok:z≠.bad) (ht0:ts[0]?=some t) (hs:∃e,P.underlying t=some (.slice e)):zae P w M R z (Builtin.cap_ ts ty #[v]):=by
 unfold zmW at hz
 split at hz
 .rename_i s es
  subst hz
  obtain⟨e,he⟩:=hs
  cases hx with
  |isl R nl sz es a cap b o u hnl hna hcap ha hsz hc hv=>
   have h0:=hnl true rfl
   have ha:a=none:=by cases a<;>simp_all
   obtain⟨_,rfl⟩:=hna ha
   refine⟨_,?_,.int _ _ _⟩
   unfold Builtin.cap_
   simp only[ht0]
   show (underlying t>>=_).run P w=_
   rw[zh (run_underlying he w)]
   rfl
 .exact absurd hz.symm hok
theorem zlO (k1 k2:IntKind) (len cap:Nat):(Instr.sliceBounds true len cap none (some (.int k1 0)) (some (.int k2 0))).run P w= .ok (0,0,0) w:=by
 unfold Instr.sliceBounds
 simp only[pure_bind]
 rw[zh (zai _ _ _ _ (by omega) (by omega))]
 rw[zh (zai _ _ _ _ (by omega) (by omega))]
 rfl
theorem zrt {t e:TypeId} {sz:Nat} {x z:AV} {v:Value} {k1 k2:IntKind} (hx:VR w M R x v) (hz:empV x=z) (hok:z≠.bad) (ht:P.underlying t=some (.slice e)) (hs:szT P e=some sz):zae P w M R z (Instr.sliceAt t v none (some (.int k1 0)) (some (.int k2 0))):=by
 unfold empV at hz
 split at hz
 .subst hz
  cases hx with
  |isl R nl s es a cap b o u hnl hna hcap ha hsz hc hv=>
   refine⟨.slice a 0 0,?_,.emp _ _⟩
   unfold Instr.sliceAt
   rw[zh (run_underlying ht w)]
   unfold Instr.slice
   simp only
   rw[zh (run_underlying ht w)]
   simp only
   rw[zh (zlO _ _ _ _)]
   simp only
   rw[zh (zam hs w)]
   simp
 .exact absurd hz.symm hok
theorem q_mn {ts:Array TypeId} {ty:TypeId} {x y z:AV} {u v:Value} (hx:VR w M R x u) (hy:VR w M R y v) (hz:mnV x y=z) (hok:z≠.bad):zae P w M R z (Builtin.min_ ts ty #[u,v]):=by
 unfold mnV at hz
 split at hz
 .rename_i k a k' b
  split at hz
  .cases hx;cases hy
   subst hz
   refine⟨_,Go.Lib.run_min_ints w ts ty k k' a b,?_⟩
   have e:min a b=if b<a then b else a:=by rw[Int.min_def];split<;>split<;>omega
   rw[e];exact .int _ _ _
  .exact absurd hz.symm hok
 .exact absurd hz.symm hok
theorem q_mx {ts:Array TypeId} {ty:TypeId} {x y z:AV} {u v:Value} (hx:VR w M R x u) (hy:VR w M R y v) (hz:mxV x y=z) (hok:z≠.bad):zae P w M R z (Builtin.max_ ts ty #[u,v]):=by
 unfold mxV at hz
 split at hz
 .rename_i k a k' b
  split at hz
  .cases hx;cases hy
   subst hz
   refine⟨_,Go.Lib.run_max_ints w ts ty k k' a b,?_⟩
   have e:max a b=if a<b then b else a:=by rw[Int.max_def];split<;>split<;>omega
   rw[e];exact .int _ _ _
  .exact absurd hz.symm hok
 .exact absurd hz.symm hok
theorem zrm {ts:Array TypeId} {ty:TypeId} {x y x3 z:AV} {u v u3:Value} (hx:VR w M R x u) (hy:VR w M R y v) (hx3:VR w M R x3 u3) (hz:mxV (mxV x y) x3=z) (hok:z≠.bad):zae P w M R z (Builtin.max_ ts ty #[u,v,u3]):=by
 unfold mxV at hz
 split at hz
 .rename_i k a k' b he
  split at he
  .split at he
   .rename_i k1 a1 k2 b1 hk
    cases he
    split at hz
    .cases hx;cases hy;cases hx3
     subst hz
     refine⟨_,?_,.int _ _ _⟩
     simp[Builtin.max_,Builtin.max2]
    .exact absurd hz.symm hok
   .cases he
  .cases he
 .exact absurd hz.symm hok
theorem ER.rep {sz n:Nat} {zv:Value} (hzl:(ofV zv).cells.length=sz) {c:Array Value} (hs:c.size=n* sz) (hc:∀i j,i<n→j<sz→c[i* sz+j]?=zv.cells[j]?):ER w M R sz (List.replicate n (ofV zv)) c:=by
 obtain⟨zc1,zc2⟩:=zeN (w:=w) (M:=M) (R:=R) zv
 refine⟨by simp[hs],?_,?_⟩
 .intro i e he
  rw[List.getElem?_replicate]at he
  split at he
  .cases he;exact hzl
  .cases he
 .intro i e j x u he hj hu
  rw[List.getElem?_replicate]at he
  split at he
  .rename_i hil
   cases he
   have hjl:j<sz:=by rw[←hzl];exact (gEs.1 hj).1
   rw[hc i j hil hjl]at hu
   exact zc2 j x u hj hu
  .cases he
theorem zfk {z:Array Value} {sz n:Nat} (hz:z.size=sz) {i j:Nat} (hi:i<n) (hj:j<sz):((Array.range (n* sz)).map (z[· % z.size]!))[i* sz+j]?=z[j]?:=by
 have hk:i* sz+j<n* sz:=by
  have:=Nat.mul_le_mul_right sz (show i+1≤n by omega)
  rw[Nat.add_mul]at this;omega
 have hmod:(i* sz+j) % z.size=j:=by rw[hz,Nat.mul_comm,Nat.mul_add_mod,Nat.mod_eq_of_lt hj]
 rw[Array.getElem?_map,Array.getElem?_range,if_pos hk]
 simp only[Option.map_some,hmod]
 rw[getElem!_pos _ _ (by omega),Array.getElem?_eq_getElem]
theorem zqL (h:WR C K w M R H) {t e:TypeId} {sz:Nat} {i:TypeInfo} {zv:Value} {x y z:AV} {u v:Value} {H':Heap} (hx:VR w M R x u) (hy:VR w M R y v) (he:ex H (.mksl sz (ofV zv)) [x,y]=some (z,H'))
  (ht:P.underlying t=some (.slice e)) (hi:P.info? e=some i) (hz:i.zero=some zv) (hs:i.size=sz) (hb:i.bytes≤65536):Eff C K P w M R z H' id (Instr.makeSlice t u v):=by
 cases x<;>cases y<;>simp only[ex]at he<;>try cases he
 rename_i k n k' m
 split at he
 .rename_i hc
  obtain⟨c1,c2,c3,c4⟩:=hc
  cases he
  cases hx;cases hy
  subst c2
  have hbytes:(i.bytes:Int)* n≤281474976710656:=by
   have h1:(i.bytes:Int)* n≤65536* n:=Int.mul_le_mul_of_nonneg_right (by omega) c1
   omega
  have hcells:n.toNat* i.size≤n.toNat* i.size:=Nat.le_refl _
  have hrun:=run_make (P:=P) w t e i zv ht hi hz k k' n n c1 (Int.le_refl _) hbytes (by omega)
  rw[hs]at hrun
  have hz0:zv.cells.size=sz:=by
   obtain⟨zc1,_⟩:=zeN (w:=w) (M:=M) (R:=R) zv
   omega
  have er:=ER.rep (w:=w) (M:=M) (R:=R) (n:=n.toNat) c4 (c:=madeCells zv.cells (n.toNat* sz)) (size_madeCells _ _) (fun a b ha hb=>zfk hz0 ha hb)
  obtain⟨g1,g2⟩:=h.new (madeCells zv.cells (n.toNat* sz)) e (List.replicate n.toNat (ofV zv)) sz n.toNat (size_madeCells _ _) (by simp) er.2.1 er.2.2
  refine⟨_,_,_,_,hrun,?_,g1,g2⟩
  have key:=VR.osl (w:=w.alloc (.cells (madeCells zv.cells (n.toNat* sz)) e)) (M:=z6 M w.heap.size) (zB R H.length ⟨sz,w.heap.size,n.toNat,0⟩) H.length 0 0 n.toNat ⟨sz,w.heap.size,n.toNat,0⟩ ⟨w.heap.size,0,none⟩ (by simp[zB]) (by simp) (by simp)
  simpa using key
 .cases he
theorem zqO (h:WR C K w M R H) {t tn e ty:TypeId} {kn:IntKind} {sz:Nat} {i:TypeInfo} {zv:Value} {x y z:AV} {u v:Value} {H':Heap} (hx:VR w M R x u) (hy:VR w M R y v) (he:ex H (.appz sz (ofV zv)) [x,y]=some (z,H'))
  (ht:P.underlying t=some (.slice e)) (htn:P.underlying tn=some (.int kn)) (hi:P.info? e=some i) (hz:i.zero=some zv) (hs:i.size=sz) (hb:i.bytes≤65536):Eff C K P w M R z H' id (Builtin.append_ #[t,tn] ty #[u,v]):=by
 cases y<;>simp only[ex]at he<;>try cases he
 rename_i k n
 split at he
 .rename_i nl sx
  split at he
  .rename_i hc
   obtain⟨c1,c2,c3,c4⟩:=hc
   cases he
   cases hy
   obtain⟨m,rfl⟩:∃m:Nat,n=m:=⟨n.toNat,by omega⟩
   simp only[Int.toNat_natCast]
   cases hx with
   |isl R _ _ _ a' cap b o uu hnl hna hcap ha hsz hcc hv=>
    have hnone:a'=none:=by have:=hnl true rfl;simpa using this
    subst hnone
    obtain⟨_,rfl⟩:=hna rfl
    have h48:m* i.bytes≤281474976710656:=by
     have:=Nat.mul_le_mul (show m≤1048576 by omega) hb;omega
    have hrun:=Lib.run_append_nil_zeros (P:=P) w t tn ty e i zv k kn ht htn hi hz m (by omega) (by omega) (by omega) h48
    obtain⟨d1,d2⟩:=h.same (w':=w.drew) rfl rfl rfl rfl
    have hge:=grownCap_ge w m 0 e
    have hz0:zv.cells.size=sz:=by
     obtain⟨zc1,_⟩:=zeN (w:=w) (M:=M) (R:=R) zv
     omega
    have hzc:∀q,Builtin.zeroCells zv.cells q=(Array.range (q* sz)).map (zv.cells[· % zv.cells.size]!):=by
     intro q;unfold Builtin.zeroCells;rw[hz0]
    have er:=ER.rep (w:=w.drew) (M:=M) (R:=R) (n:=m) c3 (c:=Builtin.zeroCells zv.cells m) (by simp[size_zeroCells,hz0]) (fun a b ha hb=>by rw[hzc];exact zfk hz0 ha hb)
    obtain⟨g1,g2⟩:=d1.new (Builtin.zeroCells zv.cells m++Builtin.zeroCells zv.cells (grownCap w m 0 e - m)) e (List.replicate m (ofV zv)) sz (grownCap w m 0 e)
     (by simp only[Array.size_append,size_zeroCells,hz0,←Nat.add_mul];congr 1;omega) (by simpa using hge) er.2.1 (fun i' e' j x' u' hi' hj hu=>by
      have hjl:j<sz:=by rw[←er.2.1 i' e' hi'];exact (gEs.1 hj).1
      have hil:=(gEs.1 hi').1
      simp only[List.length_replicate]at hil
      have hlt:i'* sz+j<m* sz:=by
       have:=Nat.mul_le_mul_right sz (show i'+1≤m by omega)
       rw[Nat.add_mul]at this;omega
      rw[Array.getElem?_append_left (by rw[size_zeroCells,hz0];exact hlt)]at hu
      exact er.2.2 i' e' j x' u' hi' hj hu)
    refine⟨_,_,_,_,hrun,?_,g1,d2.trans g2⟩
    have key:=VR.osl (w:=w.drew.alloc (.cells (Builtin.zeroCells zv.cells m++Builtin.zeroCells zv.cells (grownCap w m 0 e - m)) e)) (M:=z6 M w.drew.heap.size) (zB R H.length ⟨sz,w.drew.heap.size,grownCap w m 0 e,0⟩) H.length 0 0 m ⟨sz,w.drew.heap.size,grownCap w m 0 e,0⟩ ⟨w.drew.heap.size,0,none⟩ (by simp[zB]) (by simpa using hge) (by simp)
    simpa using key
  .cases he
 .cases he
theorem zph (h:WR C K w M R H) {t e:TypeId} {tg sz:Nat} {i:TypeInfo} {zv:Value} {x y z:AV} {u v:Value} {H':Heap} (hx:VR w M R x u) (hy:VR w M R y v) (he:ex H (.mkslH tg sz (ofV zv)) [x,y]=some (z,H'))
  (ht:P.underlying t=some (.slice e)) (hi:P.info? e=some i) (hz:i.zero=some zv) (hs:i.size=sz) (hb:i.bytes≤65536):Eff C K P w M R z H' id (Instr.makeSlice t u v):=by
 cases x<;>cases y<;>simp only[ex]at he<;>try cases he
 rename_i k n k' m
 split at he
 .rename_i n0 hfind
  split at he
  .rename_i hc
   obtain⟨c1,c2,c3,c4⟩:=hc
   cases he
   cases hx;cases hy
   subst c2
   have hbytes:(i.bytes:Int)* n≤281474976710656:=by
    have h1:(i.bytes:Int)* n≤65536* n:=Int.mul_le_mul_of_nonneg_right (by omega) c1
    omega
   have hcells:n.toNat* i.size≤n.toNat* i.size:=Nat.le_refl _
   have hrun:=run_make (P:=P) w t e i zv ht hi hz k k' n n c1 (Int.le_refl _) hbytes (by omega)
   rw[hs]at hrun
   have hz0:zv.cells.size=sz:=by
    obtain⟨zc1,_⟩:=zeN (w:=w) (M:=M) (R:=R) zv
    omega
   have er:=ER.rep (w:=w.alloc (.cells (madeCells zv.cells (n.toNat* sz)) e)) (M:=z6 M w.heap.size) (R:=zI R n0 ⟨sz,w.heap.size,n.toNat,0⟩) (n:=n.toNat) c4 (c:=madeCells zv.cells (n.toNat* sz)) (size_madeCells _ _) (fun a b ha hb=>zfk hz0 ha hb)
   obtain⟨g1,g2⟩:=h.fillBlk (.cells (madeCells zv.cells (n.toNat* sz)) e) (.arr 0 sz false (List.replicate n.toNat (ofV zv))) ⟨sz,w.heap.size,n.toNat,0⟩ (zO hfind) rfl rfl ⟨⟨sz,w.heap.size,n.toNat,0⟩,madeCells zv.cells (n.toNat* sz),e,by simp[zI,Blk.ver],fun v hv=>by unfold zI;rw[if_pos rfl,if_neg (by omega)],rfl,zA w _,by simpa using size_madeCells zv.cells (n.toNat* sz),by simp,er.2.1,
    fun i e j x u a b d=>er.2.2 i e j x u a b (by simpa using d),fun _ _=> .inr rfl,fun _ _=> .inr rfl⟩
   refine⟨_,_,_,_,hrun,?_,g1,g2⟩
   have key:=VR.osl (w:=w.alloc (.cells (madeCells zv.cells (n.toNat* sz)) e)) (M:=z6 M w.heap.size) (zI R n0 ⟨sz,w.heap.size,n.toNat,0⟩) n0 0 0 n.toNat ⟨sz,w.heap.size,n.toNat,0⟩ ⟨w.heap.size,0,none⟩ (by simp[zI]) (by simp) (by simp)
   simpa using key
  .cases he
 .cases he
theorem WR.newH (h:WR C K w M R H) (c:Array Value) (t:TypeId) (es:List AV) (sz cap n tg:Nat) (hn:zj tg H=some n) (hs:c.size=cap* sz) (hl:es.length≤cap)
  (hes:∀(i:Nat) (e:AV),es[i]?=some e→(AV.cells e).length=sz)
  (hv:∀(i:Nat) (e:AV) (j:Nat) (x:AV) (u:Value),es[i]?=some e→(AV.cells e)[j]?=some x→c[i* sz+j]?=some u→VR w M R x u):
  WR C K (w.alloc (.cells c t)) (z6 M w.heap.size) (zI R n ⟨sz,w.heap.size,cap,0⟩) (H.set n (.arr 0 sz false es))∧
   Evol R M w (zI R n ⟨sz,w.heap.size,cap,0⟩) (z6 M w.heap.size) (w.alloc (.cells c t)):=by
 have hno:∀v,R n v=none:=h.heap.blk n _ (zO hn)
 have hev:Evol R M w (zI R n ⟨sz,w.heap.size,cap,0⟩) (z6 M w.heap.size) (w.alloc (.cells c t)):=by
  refine⟨by show w.heap.size≤(w.heap.push _).size;simp,fun b o' v hc' _=>?_,fun id ver g' hg=>?_,fun b o' hb hm=>?_,fun b es cl h1 _=>(Below.heap_alloc _ _ _ (Array.getElem?_eq_some_iff.1 h1).1).trans h1,fun b im c0 s0 d0 h1 _=>(Below.heap_alloc _ _ _ (Array.getElem?_eq_some_iff.1 h1).1).trans h1⟩
  .rw[zN (Below.heap_alloc _ _ _ (zaS hc'))];exact hc'
  .unfold zI
   rw[if_neg (fun e=>by subst e;rw[hno]at hg;cases hg)];exact hg
  .rcases hm with hm|hm
   .exact hm
   .omega
 exact h.fillBlk (.cells c t) (.arr 0 sz false es) ⟨sz,w.heap.size,cap,0⟩ (zO hn) rfl rfl ⟨⟨sz,w.heap.size,cap,0⟩,c,t,by simp[zI,Blk.ver],fun v hv=>by unfold zI;rw[if_pos rfl,if_neg (by omega)],rfl,zA w _,by simpa using hs,hl,hes,
  fun i e j x u a b d=>(hv i e j x u a b (by simpa using d)).evol hev,fun _ _=> .inr rfl,fun _ _=> .inr rfl⟩
theorem zqQ (h:WR C K w M R H) {t e ty:TypeId} {tg sz:Nat} {i:TypeInfo} {zv:Value} (hE:zjh P t e sz i zv) {x y z:AV} {u v:Value} {H':Heap} (hx:VR w M R x u) (hy:VR w M R y v) (he:ex H (.appH tg sz) [x,y]=some (z,H')):
  Eff C K P w M R z H' id (Builtin.append_ #[t,t] ty #[u,v]):=by
 cases x<;>cases y<;>simp only[ex]at he<;>try cases he
 rename_i nl s ys
 split at he
 .rename_i n hfind
  split at he
  .rename_i hc
   obtain⟨rfl,hpos,hroom,hall⟩:=hc
   cases he
   have hys:zaC H s (.isl nl s ys)=some ys:=by simp[zaC]
   obtain⟨a,capy,rfl,hsy,hyc⟩:=zcf h.heap hy hys
   have hne:ys≠[]:=List.length_pos_iff.1 hpos
   obtain⟨b2,o2,rfl,hcells⟩:=hyc hne
   obtain⟨s1,s2,s3,s4⟩:=zbl hsy hcells
   generalize zaG w b2 o2 (ys.length* s)=V at *
   unfold zE at hroom
   have h48:ys.length* i.bytes≤281474976710656:=by
    have:=Nat.mul_le_mul hroom hE.hb;omega
   cases hx with
   |emp R a=>
   have hrun:(Builtin.append_ #[t,t] ty #[.slice a 0 0,.slice (some ⟨b2,o2,none⟩) ys.length capy]).run P w=
     .ok (.slice (some ⟨w.heap.size,0,none⟩) ys.length (grownCap w ys.length 0 e)) (w.drew.alloc (.cells (V.toArray++Builtin.zeroCells zv.cells (grownCap w ys.length 0 e - ys.length)) e)):=by
    cases a with
    |none=>exact run_append_nil (P:=P) w t ty e i zv hE.ht hE.hi hE.hz ⟨b2,o2,none⟩ ys.length capy _ (by rw[s1,hE.hs]) s2 hpos (by omega) h48
    |some b=>
     have h1:Builtin.nextslicecap (0+ys.length) 0=ys.length:=by
      unfold Builtin.nextslicecap
      rw[if_pos (by omega),Nat.zero_add]
     have:=run_append_grow (P:=P) w t ty e i zv hE.ht hE.hi hE.hz b 0 0 [] (by simp) (fun j v hj=>by simp at hj) ⟨b2,o2,none⟩ ys.length capy _ (by rw[s1,hE.hs]) s2 (by omega) (by omega) (by rw[h1];exact h48)
     simpa using this
   obtain⟨d1,d2⟩:=h.same (w':=w.drew) rfl rfl rfl rfl
   have hge:=grownCap_ge w ys.length 0 e
   obtain⟨g1,g2⟩:=d1.newH (V.toArray++Builtin.zeroCells zv.cells (grownCap w ys.length 0 e - ys.length)) e ys s (grownCap w ys.length 0 e) n tg hfind
    (by simp only[Array.size_append,List.size_toArray,size_zeroCells,hE.hzs,s1,←Nat.add_mul];congr 1;omega) hge hsy (fun i e j x u hi hj hu=>by
     have hjl:j<s:=by rw[←hsy i e hi];exact (gEs.1 hj).1
     have hil:=(gEs.1 hi).1
     have hlt:i* s+j<ys.length* s:=by
      have:=Nat.mul_le_mul_right s (show i+1≤ys.length by omega)
      rw[Nat.add_mul]at this;omega
     rw[Array.getElem?_append_left (by simp[s1];exact hlt),List.getElem?_toArray]at hu
     exact (s3 i e j x u hi hj hu).evol d2)
   refine⟨_,_,_,_,hrun,?_,g1,d2.trans g2⟩
   have key:=VR.osl (w:=w.drew.alloc (.cells (V.toArray++Builtin.zeroCells zv.cells (grownCap w ys.length 0 e - ys.length)) e)) (M:=z6 M w.drew.heap.size) (zI R n ⟨s,w.drew.heap.size,grownCap w ys.length 0 e,0⟩) n 0 0 ys.length ⟨s,w.drew.heap.size,grownCap w ys.length 0 e,0⟩ ⟨w.drew.heap.size,0,none⟩ (by simp[zI]) (by simpa using hge) (by simp)
   simpa using key
  .cases he
 .cases he
theorem zpi (h:WR C K w M R H) {t:TypeId} {z:AV} {H':Heap} (he:ex H .mkmap []=some (z,H')):Eff C K P w M R z H' id (Instr.makeMap t none):=by
 simp only[ex]at he
 cases he
 obtain⟨g1,g2⟩:=h.newBlk (.map #[] 0) (.mp []) ⟨1,w.heap.size,0,0⟩ rfl rfl ⟨⟨1,w.heap.size,0,0⟩,#[],0,by simp[zB],fun v hv=>by simp[zB];omega,zA w _,rfl,.inr rfl,⟨by simp,by simp⟩,by intro i k v e hi;simp at hi⟩
 exact⟨_,_,_,_,rfl,.omap _ _ ⟨1,w.heap.size,0,0⟩ (by simp[zB]),g1,g2⟩
theorem zmX (a b:List UInt8):((⟨a.toArray⟩:ByteArray)==⟨b.toArray⟩)=decide (a=b):=by
 show (a.toArray==b.toArray)=_
 rw[zdh];simp
theorem zcP {r:Nat} {es:Array MapEntry} {clock:Nat} (hb:w.heap[r]?=some (.map es clock)):(getObj r).run P w= .ok (.map es clock) w:=by simp[getObj,Sem.run,hb]
theorem znm (hh:HR C w M R H) {m:AV} {u:Value} {es:List (AV×AV)} (hm:VR w M R m u) (he:zet H m=some es):∃b es' clock,u= .map (some b)∧w.heap[b]?=some (.map es' clock)∧es'.size=es.length∧
  ∀(i:Nat) (k v:AV) (e:MapEntry),es[i]?=some (k,v)→es'[i]?=some e→VR w M R k e.key∧VR w M R v e.val:=by
 unfold zet at he
 split at he
 .rename_i id
  split at he
  .rename_i es0 hb
   cases he
   obtain⟨g,es',clock,h1,h2,h3,h4,_,_,h5⟩:=hh.blk id _ hb
   cases hm with
   |omap R _ g' hg'=>
    rw[h1]at hg';cases hg'
    exact⟨_,_,_,rfl,h3,h4,h5⟩
  .cases he
 .rename_i ks vs
  cases he
  cases hm with
  |imap R _ _ b es' cl hb hm0 hs hl hbn hnd hk hv=>
   refine⟨b,es',cl,rfl,hb,by rw[hs,List.length_zip,hl];simp,fun i k v e h1 h2=>?_⟩
   obtain⟨h3,h4⟩:=List.getElem?_zip_eq_some.1 h1
   exact⟨(hk i k e h3 h2).noRes_any rfl,(hv i v e h4 h2).noRes_any rfl⟩
 .cases he
theorem zpU (hh:HR C w M R H) {t kt et:TypeId} {ts:Array TypeId} {ty:TypeId} {x z:AV} {v:Value} (hx:VR w M R x v) (hz:zoa H x=z) (hok:z≠.bad) (ht0:ts[0]?=some t) (ht:P.underlying t=some (.map kt et)):zae P w M R z (Builtin.len_ ts ty #[v]):=by
 unfold zoa at hz
 split at hz
 .rename_i es hm
  obtain⟨b,es',clock,rfl,h3,h4,h5⟩:=znm hh hx hm
  subst hz
  refine⟨.int .i64 es'.size,?_,by rw[←h4];exact .int _ _ _⟩
  unfold Builtin.len_
  simp only[ht0]
  show (underlying t>>=_).run P w=_
  rw[zh (run_underlying ht w)]
  show ((getObj b)>>=_).run P w=_
  rw[zh (zcP h3)]
  rfl
 .exact absurd hz.symm hok
def keyQ:TypeDesc→Option Nat| .int _=>some 0| .bool=>some 1| .string=>some 2|_=>none
theorem za6 {d:TypeDesc} {q:Nat} (hq:keyQ d=some q) {kt:TypeId} (hd:P.underlying kt=some d) (k:Value) (e:Bool) (n:Nat):(Instr.checkKey e (n+1) kt k).run P w= .ok () w:=by
 unfold Instr.checkKey
 simp only[Sem.run_bind,run_underlying hd,Result.andThen]
 cases d<;>simp_all [keyQ]
theorem zhN {d:TypeDesc} {q:Nat} (hq:keyQ d=some q) {x y:AV} {u v:Value} {b:Bool} (hx:VR w M R x u) (hy:VR w M R y v) (he:zaO q x y=some b):Instr.sameNow d u v=some b∧(b=true→∀n,Instr.sameBits n u v=true):=by
 unfold keyQ at hq
 split at hq
 .cases hq
  cases x<;>try (simp[zaO]at he;done)
  cases y<;>try (simp[zaO]at he;done)
  rename_i k a k' c
  cases hx;cases hy
  simp only[zaO]at he
  split at he
  .rename_i hk
   cases he
   subst hk
   refine⟨by simp[Instr.sameNow,zdh],fun hb n=>?_⟩
   have:a=c:=by simpa using hb
   subst this
   cases n<;>simp[Instr.sameBits]
  .cases he
 .cases hq
  cases x<;>try (simp[zaO]at he;done)
  cases y<;>try (simp[zaO]at he;done)
  cases hx;cases hy
  cases he
  refine⟨rfl,fun hb n=>?_⟩
  cases n<;>simpa[Instr.sameBits]using hb
 .cases hq
  cases x<;>try (simp[zaO]at he;done)
  cases y<;>try (simp[zaO]at he;done)
  rename_i a c
  cases hx;cases hy
  cases he
  have e1:((⟨a.toArray⟩:ByteArray)==⟨c.toArray⟩)=decide (a=c):=zmX a c
  refine⟨by simp only[Instr.sameNow,e1],fun hb n=>?_⟩
  cases n<;>simp only[Instr.sameBits,e1]<;>exact hb
 .cases hq
theorem zh4 {d:TypeDesc} {q:Nat} (hq:keyQ d=some q) {k:AV} {kv:Value} (hk:VR w M R k kv):∀(es:List (AV×AV)) (es':List MapEntry) (i:Nat) (r:Option (Nat×AV)),es'.length=es.length→
  (∀(i:Nat) (a b:AV) (e:MapEntry),es[i]?=some (a,b)→es'[i]?=some e→VR w M R a e.key∧VR w M R b e.val)→zbM q k es i=some r→
  (r=none∧Instr.findNow d kv es' i=some none)∨∃j a b e,r=some (i+j,b)∧es[j]?=some (a,b)∧es'[j]?=some e∧Instr.findNow d kv es' i=some (some (i+j,e.val))∧Instr.sameBits 10000 e.key kv=true:=by
 intro es
 induction es with
 |nil=>
  intro es' i r hl _ hf
  simp only[zbM,Option.some.injEq]at hf
  subst hf
  have:es'=[]:=by simpa using hl
  subst this
  exact .inl ⟨rfl,rfl⟩
 |cons e es ih=>
  intro es' i r hl hv hf
  obtain⟨a,b⟩:=e
  match es',hl with
  |e'::es',hl=>
   obtain⟨v1,v2⟩:=hv 0 a b e' rfl rfl
   simp only[zbM]at hf
   cases hc:zaO q k a with
   |none=>simp[hc]at hf
   |some t=>
    have hsym:zaO q a k=some t:=by
     unfold zaO at hc⊢
     split at hc
     .split at hc
      .rename_i hkk
       subst hkk
       cases hc
       simp[eq_comm]
      .cases hc
     .cases hc;simp[Bool.beq_comm]
     .cases hc;simp[eq_comm]
     .cases hc
    obtain⟨s1,s2⟩:=zhN hq hk v1 hc
    obtain⟨_,s3⟩:=zhN hq v1 hk hsym
    cases t with
    |true=>
     simp only[hc,Option.some.injEq]at hf
     subst hf
     exact .inr ⟨0,a,b,e',rfl,rfl,rfl,by simp[Instr.findNow,s1],s3 rfl _⟩
    |false=>
     simp only[hc]at hf
     rcases ih es' (i+1) r (by simpa using hl) (fun j x y e hj he=>hv (j+1) x y e (by simpa using hj) (by simpa using he)) hf with⟨h1,h2⟩|⟨j,x,y,e,h1,h2,h3,h4,h5⟩
     .exact .inl ⟨h1,by simp[Instr.findNow,s1,h2]⟩
     .have e1:i+1+j=i+(j+1):=by omega
      rw[e1]at h1 h4
      exact .inr ⟨j+1,x,y,e,h1,by simpa using h2,by simpa using h3,by simp[Instr.findNow,s1,h4],h5⟩
theorem zpT (hh:HR C w M R H) {t kt et:TypeId} {d:TypeDesc} {q:Nat} {ok:Bool} {zv:Value} {m k z:AV} {u v:Value} (hm:VR w M R m u) (hk:VR w M R k v) (hz:zcO H q ok (ofV zv) m k=z) (hok:z≠.bad)
  (ht:P.underlying t=some (.map kt et)) (hd:P.underlying kt=some d) (hq:keyQ d=some q) (hzero:zcx P et=some zv):zae P w M R z (Instr.lookup t u v ok):=by
 unfold zcO at hz
 split at hz
 .rename_i es hmo
  obtain⟨b0,es',clock,rfl,h3,h4,h5⟩:=znm hh hm hmo
  split at hz
  .skip
   .skip
    .skip
     cases hf:zbM q k es 0 with
     |none=>simp only[hf]at hz;exact absurd hz.symm hok
     |some r=>
      have hrun:∀(a:Option (Nat×Value)),Instr.findNow d v es'.toList 0=some a→(Instr.lookup t (.map (some b0)) v ok).run P w=((match a with|some (_,v)=>pure (v,true)|none=>do pure (←zeroValue et,false):Sem (Value×Bool))>>=fun p=>pure (if ok then .tuple #[p.1,.bool p.2] else p.1)).run P w:=by
       intro a ha
       unfold Instr.lookup
       simp only[Sem.run_bind,run_underlying ht,Result.andThen,zcP h3,za6 hq hd,Go.MapKept.run_findKey hd ha]
       simp only[Sem.run_pure,Result.andThen,za6 hq hd,Go.MapKept.run_findKey hd ha,Sem.run_bind,zcP h3]
       cases a with
       |some p=>obtain⟨i0,v0⟩:=p;rfl
       |none=>
        simp only[Sem.run_bind]
        cases (zeroValue et).run P w<;>rfl
      rcases zh4 hq hk es es'.toList 0 r (by simpa using h4) (fun i a b e hi he=>h5 i a b e hi (by simpa using he)) hf with⟨rfl,f2⟩|⟨j,a,b,e,rfl,f1,f2,f3,_⟩
      .have:=hrun none f2
       simp only[hf]at hz
       refine⟨_,by rw[this];simp only[Sem.run_bind,zap hzero,Result.andThen,Sem.run_pure];rfl,?_⟩
       subst hz
       cases ok
       .simp only[Bool.false_eq_true,if_false];exact VR.ofV _ _ _ _
       .simp only[if_true]
        exact .tuple _ _ _ rfl fun j c u hj hu=>by
         match j,hj,hu with
         |0,hj,hu=>simp at hj hu;subst hj;subst hu;exact VR.ofV _ _ _ _
         |1,hj,hu=>simp at hj hu;subst hj;subst hu;exact .bool _ _
         |j+2,hj,hu=>simp at hj
      .have:=hrun _ f3
       simp only[hf]at hz
       have hv:=(h5 j a b e f1 (by simpa using f2)).2
       refine⟨_,by rw[this];simp only[Sem.run_bind,Result.andThen,Sem.run_pure];rfl,?_⟩
       subst hz
       cases ok
       .simp only[Bool.false_eq_true,if_false];exact hv
       .simp only[if_true]
        exact .tuple _ _ _ rfl fun j c u hj hu=>by
         match j,hj,hu with
         |0,hj,hu=>simp at hj hu;subst hj;subst hu;exact hv
         |1,hj,hu=>simp at hj hu;subst hj;subst hu;exact .bool _ _
         |j+2,hj,hu=>simp at hj
  .exact absurd hz.symm hok
 .exact absurd hz.symm hok
theorem WR.putMap (h:WR C K w M R H) {id:Nat} {es es2:List (AV×AV)} {g:Own} {a a':Array MapEntry} {clock clock':Nat} (hb:H[id]?=some (.mp es)) (hg:R id 0=some g) (hr:w.heap[g.blk]?=some (.map a clock))
  (hl:a'.size=es2.length) (hbn:(∀x∈a'.toList,x.born<clock')∧(a'.toList.map (·.born)).Nodup) (hv:∀(i:Nat) (k v:AV) (e:MapEntry),es2[i]?=some (k,v)→a'[i]?=some e→VR w M R k e.key∧VR w M R v e.val):
  WR C K (w.putObj g.blk (.map a' clock')) M R (H.set id (.mp es2))∧Evol R M w R M (w.putObj g.blk (.map a' clock')):=by
 have he:Evol R M w R M (w.putObj g.blk (.map a' clock')):=zbh hr (by intro c t f e;cases e) (.inr (by
  obtain⟨g0,es0,c0,k1,k2,k3,k4,kM,k5⟩:=h.heap.blk id _ hb
  rw[hg]at k1;cases k1
  exact kM))
 have hid:id<H.length:=(gEs.1 hb).1
 obtain⟨g0,es0,c0,k1,k2,k3,k4,kM,k5⟩:=h.heap.blk id _ hb
 rw[hg]at k1;cases k1
 have hlt:g.blk<w.heap.size:=(Array.getElem?_eq_some_iff.1 hr).1
 refine⟨⟨⟨?_,?_,?_⟩,fun p hp=>(h.pins p hp).evol he,h.below.trans (za1 _ (h.base id 0 g hg)),h.base,h.sub,Nat.le_trans h.le he.size,fun k hk=>?_,h.nodup⟩,he⟩
 .intro i B hi
  by_cases hii:i=id
  .subst hii
   rw[gEt hid]at hi
   cases hi
   exact⟨g,a',clock',hg,k2,World.putObj_heap_same hlt,hl,kM,hbn,fun i k v e h1 h2=>⟨(hv i k v e h1 h2).1.evol he,(hv i k v e h1 h2).2.evol he⟩⟩
  .rw[gEn (fun e=>hii e.symm)]at hi
   refine (h.heap.blk i B hi).keep he (fun _=>rfl) (fun g' hg'=>World.putObj_heap_other (fun e=>hii ?_)) (fun _ _ _ hm=>hm)
   exact h.heap.inj i id B _ g' g hi hb hg' hg e
 .intro i v g' hi
  rw[List.length_set];exact h.heap.dom i v g' hi
 .intro i j Bi Bj gi gj hi hj hgi hgj hbb
  have old:∀(k:Nat) (B:Blk) (g':Own),(H.set id (.mp es2))[k]?=some B→R k B.ver=some g'→∃B':Blk,H[k]?=some B'∧R k B'.ver=some g':=by
   intro k B g' hk hg'
   by_cases hkk:k=id
   .subst hkk
    rw[gEt hid]at hk
    cases hk
    exact⟨_,hb,hg'⟩
   .rw[gEn (fun e=>hkk e.symm)]at hk
    exact⟨B,hk,hg'⟩
  obtain⟨Bi',a1,a2⟩:=old i Bi gi hi hgi
  obtain⟨Bj',b1,b2⟩:=old j Bj gj hj hgj
  exact h.heap.inj i j Bi' Bj' gi gj a1 b1 a2 b2 hbb
 .obtain⟨q1,q2⟩:=h.marks k hk
  refine⟨?_,q2⟩
  rw[World.putObj_heap_other (fun e=>by subst e;rw[hr]at q1;cases q1)]
  exact q1
theorem WR.putSit (h:WR C K w M R H) {id:Nat} {st:List UInt8} {p p':Nat} {g:Own} (hb:H[id]?=some (.sit st p)) (hg:R id 0=some g) (hr:w.heap[g.blk]?=some (.stringIter ⟨st.toArray⟩ p)):
  WR C K (w.putObj g.blk (.stringIter ⟨st.toArray⟩ p')) M R (H.set id (.sit st p'))∧Evol R M w R M (w.putObj g.blk (.stringIter ⟨st.toArray⟩ p')):=by
 have he:Evol R M w R M (w.putObj g.blk (.stringIter ⟨st.toArray⟩ p')):=zbh hr (by intro c t f e;cases e) (.inl ⟨(by intro es cl e;cases e),(by intro m c s d e;cases e)⟩)
 have hid:id<H.length:=(gEs.1 hb).1
 obtain⟨g0,k1,k2,k3⟩:=h.heap.blk id _ hb
 rw[hg]at k1;cases k1
 have hlt:g.blk<w.heap.size:=(Array.getElem?_eq_some_iff.1 hr).1
 refine⟨⟨⟨?_,?_,?_⟩,fun p hp=>(h.pins p hp).evol he,h.below.trans (za1 _ (h.base id 0 g hg)),h.base,h.sub,Nat.le_trans h.le he.size,fun k hk=>?_,h.nodup⟩,he⟩
 .intro i B hi
  by_cases hii:i=id
  .subst hii
   rw[gEt hid]at hi
   cases hi
   exact⟨g,hg,k2,World.putObj_heap_same hlt⟩
  .rw[gEn (fun e=>hii e.symm)]at hi
   refine (h.heap.blk i B hi).keep he (fun _=>rfl) (fun g' hg'=>World.putObj_heap_other (fun e=>hii ?_)) (fun _ _ _ hm=>hm)
   exact h.heap.inj i id B _ g' g hi hb hg' hg e
 .intro i v g' hi
  rw[List.length_set];exact h.heap.dom i v g' hi
 .intro i j Bi Bj gi gj hi hj hgi hgj hbb
  have old:∀(k:Nat) (B:Blk) (g':Own),(H.set id (.sit st p'))[k]?=some B→R k B.ver=some g'→∃B':Blk,H[k]?=some B'∧R k B'.ver=some g':=by
   intro k B g' hk hg'
   by_cases hkk:k=id
   .subst hkk
    rw[gEt hid]at hk
    cases hk
    exact⟨_,hb,hg'⟩
   .rw[gEn (fun e=>hkk e.symm)]at hk
    exact⟨B,hk,hg'⟩
  obtain⟨Bi',a1,a2⟩:=old i Bi gi hi hgi
  obtain⟨Bj',b1,b2⟩:=old j Bj gj hj hgj
  exact h.heap.inj i j Bi' Bj' gi gj a1 b1 a2 b2 hbb
 .obtain⟨q1,q2⟩:=h.marks k hk
  refine⟨?_,q2⟩
  rw[World.putObj_heap_other (fun e=>by subst e;rw[hr]at q1;cases q1)]
  exact q1
theorem zeG {id ver ver':Nat} {g:Own} (hmax:∀v,ver<v→R id v=none) (hlt:ver<ver'):∀i v g',R i v=some g'→zm R id ver' g i v=some g':=by
 intro i v g' h
 unfold zm
 split
 .rename_i hc
  obtain⟨rfl,rfl⟩:=hc
  rw[hmax _ hlt]at h;cases h
 .exact h
theorem WR.setB (h:WR C K w M R H) {id:Nat} {B B':Blk} {g g1:Own} {c c':Array Value} {t:TypeId} (hb:H[id]?=some B) (hg:R id B.ver=some g) (hmax:∀v,B.ver<v→R id v=none) (hw:w.heap[g.blk]?=some (.cells c t (0,0))) (hM:∀o,M g.blk o)
  (hver:B.ver<B'.ver) (hb1:g1.blk=g.blk) (hB':∀w',w'=w.setRow g.blk c'→w'.heap[g.blk]?=some (.cells c' t (0,0))→BlkR C w' M (zm R id B'.ver g1) id B'):
  WR C K (w.setRow g.blk c') M (zm R id B'.ver g1) (H.set id B')∧Evol R M w (zm R id B'.ver g1) M (w.setRow g.blk c'):=by
 have hid:id<H.length:=(gEs.1 hb).1
 have he:Evol R M w (zm R id B'.ver g1) M (w.setRow g.blk c'):=by
  refine⟨by simp,fun b o v hc hm=>?_,zeG hmax hver,fun _ _ _ h=>h,fun b es cl h1 _=>(setRow_other w g.blk b c' (fun e=>by subst e;rw[hw]at h1;cases h1)).trans h1,fun b im c0 s0 d0 h1 _=>(setRow_other w g.blk b c' (fun e=>by subst e;rw[hw]at h1;cases h1)).trans h1⟩
  by_cases hbb:b=g.blk
  .subst hbb;exact absurd (hM o) hm
  .rw[cell_setRow_other w g.blk c' _ hbb];exact hc
 have hbelow:Below K.base w (w.setRow g.blk c'):=⟨rfl,rfl,rfl,by simp,fun k hk=>setRow_other w g.blk k c' (by have:=h.base id _ g hg;omega)⟩
 refine⟨⟨⟨?_,?_,?_⟩,fun p hp=>(h.pins p hp).evol he,h.below.trans hbelow,?_,h.sub,by simpa using h.le,fun r hr=>⟨(setRow_other w g.blk r c' (fun e=>by subst e;rw[(h.marks _ hr).1]at hw;cases hw)).trans (h.marks r hr).1,(h.marks r hr).2⟩,h.nodup⟩,he⟩
 .intro i B2 hi
  by_cases hii:i=id
  .subst hii
   rw[gEt hid]at hi
   cases hi
   exact hB' _ rfl (setRow_heap w g.blk c c' t (0,0) hw)
  .rw[gEn (fun e=>hii e.symm)]at hi
   refine (h.heap.blk i B2 hi).keep he (fun v=>by unfold zm;rw[if_neg (fun hc=>hii hc.1)]) (fun g' hg'=>?_) (fun _ _ _ hm=>hm)
   refine setRow_other w g.blk g'.blk c' (fun e=>hii ?_)
   exact h.heap.inj i id B2 _ g' g hi hb hg' hg e
 .intro i v g' hi
  unfold zm at hi
  rw[List.length_set]
  split at hi
  .rename_i hc;rw[hc.1];exact hid
  .exact h.heap.dom i v g' hi
 .intro i j Bi Bj gi gj hi hj hgi hgj hbb
  have old:∀k B2 g',(H.set id B')[k]?=some B2→zm R id B'.ver g1 k B2.ver=some g'→∃B3 g2,H[k]?=some B3∧R k B3.ver=some g2∧g2.blk=g'.blk:=by
   intro k B2 g' hk hg'
   by_cases hkk:k=id
   .subst hkk
    rw[gEt hid]at hk
    cases hk
    simp[zm]at hg'
    subst hg'
    exact⟨_,_,hb,hg,hb1.symm⟩
   .rw[gEn (fun e=>hkk e.symm)]at hk
    unfold zm at hg'
    rw[if_neg (fun hc=>hkk hc.1)]at hg'
    exact⟨B2,_,hk,hg',rfl⟩
  obtain⟨Bi',gi',a1,a2,a3⟩:=old i Bi gi hi hgi
  obtain⟨Bj',gj',b1,b2,b3⟩:=old j Bj gj hj hgj
  exact h.heap.inj i j Bi' Bj' gi' gj' a1 b1 a2 b2 (by rw[a3,b3];exact hbb)
 .intro i v g' hi
  unfold zm at hi
  split at hi
  .cases hi;rw[hb1];exact h.base id _ g hg
  .exact h.base i v g' hi
theorem WR.moveB (h:WR C K w M R H) {id:Nat} {B B':Blk} {g1:Own} {o:Obj} (hb:H[id]?=some B) (hmax:∀v,B.ver<v→R id v=none) (hver:B.ver<B'.ver) (hb1:g1.blk=w.heap.size)
  (hB':BlkR C (w.alloc o) (z6 M w.heap.size) (zm R id B'.ver g1) id B'):
  WR C K (w.alloc o) (z6 M w.heap.size) (zm R id B'.ver g1) (H.set id B')∧Evol R M w (zm R id B'.ver g1) (z6 M w.heap.size) (w.alloc o):=by
 have hid:id<H.length:=(gEs.1 hb).1
 have he:Evol R M w (zm R id B'.ver g1) (z6 M w.heap.size) (w.alloc o):=by
  refine⟨by show w.heap.size≤(w.heap.push _).size;simp,fun b o v hc _=>?_,zeG hmax hver,fun b o hlt hm=>?_,fun b es cl h1 _=>(Below.heap_alloc _ _ _ (Array.getElem?_eq_some_iff.1 h1).1).trans h1,fun b im c0 s0 d0 h1 _=>(Below.heap_alloc _ _ _ (Array.getElem?_eq_some_iff.1 h1).1).trans h1⟩
  .rw[zN (Below.heap_alloc _ _ _ (zaS hc))];exact hc
  .rcases hm with hm|hm
   .exact hm
   .omega
 refine⟨⟨⟨?_,?_,?_⟩,fun p hp=>(h.pins p hp).evol he,h.below.trans ((Below.refl _ w).alloc h.le _),?_,?_,?_,fun r hr=>h.mark_alloc _ hr,h.nodup⟩,he⟩
 .intro i B2 hi
  by_cases hii:i=id
  .subst hii
   rw[gEt hid]at hi
   cases hi
   exact hB'
  .rw[gEn (fun e=>hii e.symm)]at hi
   refine (h.heap.blk i B2 hi).keep he (fun v=>by unfold zm;rw[if_neg (fun hc=>hii hc.1)]) (fun g' hg'=>?_) (fun _ _ _ hm=> .inl hm)
   obtain⟨g'',h1,h2,_⟩:=h.heap.place hi hg'
   rw[hg']at h1;cases h1
   exact Below.heap_alloc _ _ _ h2
 .intro i v g' hi
  unfold zm at hi
  rw[List.length_set]
  split at hi
  .rename_i hc;rw[hc.1];exact hid
  .exact h.heap.dom i v g' hi
 .intro i j Bi Bj gi gj hi hj hgi hgj hbb
  have old:∀k B2 g',(H.set id B')[k]?=some B2→zm R id B'.ver g1 k B2.ver=some g'→(k=id∧g'.blk=w.heap.size)∨(H[k]?=some B2∧R k B2.ver=some g'∧g'.blk<w.heap.size):=by
   intro k B2 g' hk hg'
   by_cases hkk:k=id
   .subst hkk
    rw[gEt hid]at hk
    cases hk
    simp[zm]at hg'
    subst hg'
    exact .inl ⟨rfl,hb1⟩
   .rw[gEn (fun e=>hkk e.symm)]at hk
    unfold zm at hg'
    rw[if_neg (fun hc=>hkk hc.1)]at hg'
    obtain⟨g'',h1,h2,_⟩:=h.heap.place hk hg'
    rw[hg']at h1;cases h1
    exact .inr ⟨hk,hg',h2⟩
  rcases old i Bi gi hi hgi with⟨a1,a2⟩|⟨a1,a2,a3⟩<;>rcases old j Bj gj hj hgj with⟨b1,b2⟩|⟨b1,b2,b3⟩
  .omega
  .omega
  .omega
  .exact h.heap.inj i j Bi Bj gi gj a1 b1 a2 b2 hbb
 .intro i v g' hi
  unfold zm at hi
  split at hi
  .cases hi;rw[hb1];exact h.le
  .exact h.base i v g' hi
 .intro b o hb
  have:=h.le
  exact⟨fun hm=>hm.elim (fun hm=>(h.sub b o hb).1 hm) (fun hm=>absurd hm (by omega)),fun hm=> .inl ((h.sub b o hb).2 hm)⟩
 .have:=h.le
  show K.base≤(w.heap.push _).size
  simp;omega
theorem WR.killB (h:WR C K w M R H) {id:Nat} {B:Blk} {g:Own} {w':World} {c:Array Value} {t:TypeId} {f f':Nat×Nat} (hb:H[id]?=some B) (hg:R id B.ver=some g) (hmax:∀v,B.ver<v→R id v=none) (hw:w.heap[g.blk]?=some (.cells c t f)) (hw':w'.heap[g.blk]?=some (.cells c t f'))
  (hsz:w'.heap.size=w.heap.size) (hoth:∀k,k≠g.blk→w'.heap[k]?=w.heap[k]?) (hos:w'.os=w.os) (ht:w'.tape=w.tape) (ho:w'.output=w.output):
  WR C K w' M R (H.set id (.dead B.ver))∧Evol R M w R M w':=by
 have hid:id<H.length:=(gEs.1 hb).1
 have hcell:∀b o,w'.cell? ⟨b,o,none⟩=w.cell? ⟨b,o,none⟩:=by
  intro b o
  by_cases hbb:b=g.blk
  .subst hbb;simp[World.cell?,hw,hw']
  .exact zN (hoth b hbb)
 have he:Evol R M w R M w':=⟨by omega,fun b o v hc _=>by rw[hcell];exact hc,fun _ _ _ h=>h,fun _ _ _ h=>h,fun b es cl h1 _=>(hoth b (fun e=>by subst e;rw[hw]at h1;cases h1)).trans h1,fun b im c0 s0 d0 h1 _=>(hoth b (fun e=>by subst e;rw[hw]at h1;cases h1)).trans h1⟩
 have hbelow:Below K.base w w':=⟨hos,ht,ho,by omega,fun k hk=>hoth k (by have:=h.base id _ g hg;omega)⟩
 refine⟨⟨⟨?_,?_,?_⟩,fun p hp=>(h.pins p hp).evol he,h.below.trans hbelow,h.base,h.sub,by rw[hsz];exact h.le,fun r hr=>⟨(hoth r (fun e=>by subst e;rw[(h.marks _ hr).1]at hw;cases hw)).trans (h.marks r hr).1,(h.marks r hr).2⟩,h.nodup⟩,he⟩
 .intro i B2 hi
  by_cases hii:i=id
  .subst hii
   rw[gEt hid]at hi
   cases hi
   exact⟨g,c,t,f',hg,hmax,hw'⟩
  .rw[gEn (fun e=>hii e.symm)]at hi
   refine (h.heap.blk i B2 hi).keep he (fun _=>rfl) (fun g' hg'=>hoth _ (fun e=>hii ?_)) (fun _ _ _ hm=>hm)
   exact h.heap.inj i id B2 _ g' g hi hb hg' hg e
 .intro i v g' hi
  rw[List.length_set];exact h.heap.dom i v g' hi
 .intro i j Bi Bj gi gj hi hj hgi hgj hbb
  have old:∀(k:Nat) (B2:Blk) (g':Own),(H.set id (.dead B.ver))[k]?=some B2→R k B2.ver=some g'→∃B':Blk,H[k]?=some B'∧R k B'.ver=some g':=by
   intro k B2 g' hk hg'
   by_cases hkk:k=id
   .subst hkk
    rw[gEt hid]at hk
    cases hk
    exact⟨_,hb,hg'⟩
   .rw[gEn (fun e=>hkk e.symm)]at hk
    exact⟨B2,hk,hg'⟩
  obtain⟨Bi',a1,a2⟩:=old i Bi gi hi hgi
  obtain⟨Bj',b1,b2⟩:=old j Bj gj hj hgj
  exact h.heap.inj i j Bi' Bj' gi gj a1 b1 a2 b2 hbb
def byV (l:List UInt8):List Value:=l.map fun b=>Value.int .u8 b.toNat
theorem zhv (h:WR C K w M R H) {t t2 ty:TypeId} {i:TypeInfo} {zv:Value} (hE:zjh P t zaZ 1 i zv) {x z:AV} {u y:Value} {l:List UInt8} {H':Heap} (hx:VR w M R x u) (hS:znG P w t t2 ty zaZ i zv y l.length (byV l)) (he:zel H x l=some (z,H')):
  Eff C K P w M R z H' id (Builtin.append_ #[t,t2] ty #[u,y]):=by
 have hVl:(byV l).length=l.length:=by simp[byV]
 have hVg:∀(j:Nat) (b:UInt8),l[j]?=some b→(byV l)[j]?=some (Value.int .u8 b.toNat):=by
  intro j b hj;simp[byV,hj]
 unfold zel at he
 split at he
 .rename_i nl sx
  cases hx with
  |isl R _ _ _ a' cap b o uu hnl hna hcap ha hsz hc hv=>
   have hnone:a'=none:=by have:=hnl true rfl;simpa using this
   subst hnone
   obtain⟨_,rfl⟩:=hna rfl
   split at he
   .cases he
    refine⟨_,w,M,R,hS.zero rfl _ _ _ (Nat.le_refl _),?_,h,Evol.refl _ _ _⟩
    exact .isl _ _ _ _ none 0 b o uu hnl hna hcap ha hsz hc hv
   .rename_i hne
    split at he
    .rename_i hroom
     cases he
     have hpos:0<l.length:=List.length_pos_iff.2 (fun h0=>hne h0)
     unfold zE at hroom
     have h48:l.length* i.bytes≤281474976710656:=by
      have:=Nat.mul_le_mul hroom hE.hb;omega
     have hrun:=hS.nil hpos (by omega) h48
     obtain⟨d1,d2⟩:=h.same (w':=w.drew) rfl rfl rfl rfl
     have hge:=grownCap_ge w l.length 0 zaZ
     obtain⟨g1,g2⟩:=d1.newBlk (.cells ((byV l).toArray++Builtin.zeroCells zv.cells (grownCap w l.length 0 zaZ - l.length)) zaZ) (.byt 0 l) ⟨1,w.drew.heap.size,grownCap w l.length 0 zaZ,0⟩ rfl rfl
      ⟨⟨1,w.drew.heap.size,grownCap w l.length 0 zaZ,0⟩,_,by simp[zB],fun v hv=>by simp[zB];omega,zA w.drew _,(by simp only[Array.size_append,List.size_toArray,size_zeroCells,hE.hzs,hVl];omega),hge,fun j b hj=>by
       rw[Array.getElem?_append_left (by simp[hVl];exact (gEs.1 hj).1),List.getElem?_toArray];exact hVg j b hj,fun o=> .inr rfl⟩
     refine⟨_,_,_,_,hrun,?_,g1,d2.trans g2⟩
     exact .bys _ _ _ _ ⟨1,w.drew.heap.size,grownCap w l.length 0 zaZ,0⟩ (by simp[zB]) hge
    .cases he
 .rename_i id ver len
  split at he
  .rename_i v l0 hb
   split at he
   .rename_i hcond
    obtain⟨rfl,rfl⟩:=hcond
    obtain⟨g,c,k1,k2,k3,k4,k5,k6,k7⟩:=h.heap.blk id _ hb
    cases hx with
    |bys R _ _ _ g' hg' hle=>
    rw[k1]at hg';cases hg'
    split at he
    .cases he
     exact⟨_,w,M,R,hS.zero rfl _ _ _ hle,.bys _ _ _ _ g k1 hle,h,Evol.refl _ _ _⟩
    .rename_i hne
     split at he
     .rename_i hroom
      cases he
      have hpos:0<l.length:=List.length_pos_iff.2 (fun h0=>hne h0)
      unfold zE at hroom
      by_cases hfit:l0.length+l.length≤g.cap
      .have hrun:=hS.room g.blk 0 l0.length g.cap c zaZ hpos k3 hfit (by rw[hE.hs,hVl,k4];omega)
       rw[hE.hs]at hrun
       simp only[Nat.mul_one,Nat.zero_add]at hrun
       have hget:∀k,((c.toList.take l0.length++byV l++c.toList.drop (l0.length+(byV l).length)).toArray)[k]?=if k<l0.length then c[k]? else if k<l0.length+l.length then (byV l)[k - l0.length]? else c[k]?:=by
        intro k
        rw[List.getElem?_toArray,zc7 _ _ _ _ (by rw[hVl];simp[k4];omega),hVl]
        simp only[Array.getElem?_toList]
       obtain⟨r1,r2⟩:=h.setB (B':= .byt (v+1) (l0++l)) (g1:=g) (c':=(c.toList.take l0.length++byV l++c.toList.drop (l0.length+(byV l).length)).toArray) hb k1 k2 k3 k7 (Nat.lt_succ_self _) rfl (fun w' hw' hh=>⟨g,_,by simp[zm,Blk.ver],fun v' hv'=>by
         unfold zm
         rw[if_neg (by simp only[Blk.ver];omega)]
         exact k2 v' (by show v<v';omega),hh,by simp[hVl,k4];omega,by simp;omega,fun j b hj=>by
         rw[hget]
         rcases Nat.lt_or_ge j l0.length with h1|h1
         .rw[if_pos h1];rw[gEa h1]at hj;exact k6 j b hj
         .rw[List.getElem?_append_right h1]at hj
          have:=(gEs.1 hj).1
          rw[if_neg (by omega),if_pos (by omega)]
          exact hVg _ b hj,k7⟩)
       exact⟨_,_,_,_,hrun,.bys _ _ _ _ g (by simp[zm,Blk.ver]) hfit,r1,r2⟩
      .have hbytes:(l0.length+l.length)* i.bytes≤140737488355328:=by
        have:=Nat.mul_le_mul hroom hE.hb;omega
       have holds:∀(j:Nat) (q:Value),(byV l0)[j]?=some q→w.cell? ((⟨g.blk,0,none⟩:Addr).add j)=some q:=by
        intro j q hj
        simp only[byV,List.getElem?_map,Option.map_eq_some_iff]at hj
        obtain⟨b,hb1,rfl⟩:=hj
        rw[zat,Nat.zero_add]
        have hk:=k6 j b hb1
        simp[World.cell?,k3,hk]
       have hrun:=hS.grow ⟨g.blk,0,none⟩ l0.length g.cap (byV l0) (by rw[hE.hs];simp[byV]) holds hpos (by omega) (by omega) (growslice_fits (by omega) hbytes)
       obtain⟨d1,d2⟩:=h.same (w':=w.drew) rfl rfl rfl rfl
       have hge:=grownCap_ge w (l0.length+l.length) g.cap zaZ
       have hl0:(byV l0).length=l0.length:=by simp[byV]
       obtain⟨r1,r2⟩:=d1.moveB (B':= .byt (v+1) (l0++l)) (g1:=⟨1,w.drew.heap.size,grownCap w (l0.length+l.length) g.cap zaZ,0⟩) (o:= .cells ((byV l0).toArray++(byV l).toArray++Builtin.zeroCells zv.cells (grownCap w (l0.length+l.length) g.cap zaZ - (l0.length+l.length))) zaZ) hb k2 (Nat.lt_succ_self _) rfl
        ⟨⟨1,w.drew.heap.size,grownCap w (l0.length+l.length) g.cap zaZ,0⟩,_,by simp[zm,Blk.ver],fun v' hv'=>by
         unfold zm
         rw[if_neg (by simp only[Blk.ver];omega)]
         exact k2 v' (by show v<v';omega),zA w.drew _,(by simp only[Array.size_append,List.size_toArray,size_zeroCells,hE.hzs,hVl,hl0];omega),(by simpa using hge),fun j b hj=>by
         have hjl:=(gEs.1 hj).1
         simp at hjl
         rw[Array.getElem?_append_left (by simp[hVl,hl0];exact hjl)]
         rcases Nat.lt_or_ge j l0.length with h1|h1
         .rw[gEa h1]at hj
          rw[Array.getElem?_append_left (by simp[hl0];exact h1),List.getElem?_toArray];simp[byV,hj]
         .rw[List.getElem?_append_right h1]at hj
          rw[Array.getElem?_append_right (by simp[hl0];exact h1)]
          simp only[List.size_toArray,hl0,List.getElem?_toArray]
          exact hVg _ b hj,fun o=> .inr rfl⟩
       exact⟨_,_,_,_,hrun,.bys _ _ _ _ ⟨1,w.drew.heap.size,grownCap w (l0.length+l.length) g.cap zaZ,0⟩ (by simp[zm,Blk.ver]) hge,r1,d2.trans r2⟩
     .cases he
   .cases he
  .cases he
 .cases he
theorem zqP (h:WR C K w M R H) {t t2 ty:TypeId} {i:TypeInfo} {zv:Value} (hE:zjh P t zaZ 1 i zv) (ht2:P.underlying t2=some .string) {x y z:AV} {u v:Value} {H':Heap} (hx:VR w M R x u) (hy:VR w M R y v) (he:ex H .apps [x,y]=some (z,H')):
  Eff C K P w M R z H' id (Builtin.append_ #[t,t2] ty #[u,v]):=by
 simp only[ex]at he
 split at he
 .rename_i s
  cases hy
  have hsz:(⟨s.toArray⟩:ByteArray).size=s.length:=by simp[ByteArray.size]
  have hV:Lib.strCells ⟨s.toArray⟩=byV s:=by simp[Lib.strCells,byV]
  refine zhv h hE hx ⟨fun h0 a l c hl=>?_,fun hpos h63 h48=>?_,fun g o sLen sCap cur t' hpos hg hr hf=>?_,fun b sLen sCap olds h1 h2 hpos h3 h4 h5=>?_⟩ he
  .have:s=[]:=List.length_eq_zero_iff.1 h0
   subst this
   have hf:(Builtin.firstCells i.size 0 (.string ⟨[].toArray⟩)).run P w= .ok #[] w:=by simp[Builtin.firstCells]
   cases a with
   |none=>simp[Builtin.append_,run_underlying hE.ht,run_underlying ht2,sizeOf,typeInfo,hE.hi,Builtin.lenOf,hl,hf,ByteArray.size]
   |some a=>simp[Builtin.append_,run_underlying hE.ht,run_underlying ht2,sizeOf,typeInfo,hE.hi,Builtin.lenOf,hl,hf,storeCells,ByteArray.size]
  .have:=run_append_nil_string (P:=P) w t t2 ty zaZ i zv hE.ht ht2 hE.hi hE.hz ⟨s.toArray⟩ (by rw[hsz];exact hpos) (by rw[hsz];exact h63) (by rw[hsz];exact h48)
   rw[hsz]at this
   rw[this,←hV]
   simp[Lib.strCells]
  .have hf1:=Lib.run_firstCells_string (P:=P) w 1 ⟨s.toArray⟩
   have hst:=run_storeCells_at P g (o+sLen) t' (Lib.strCells ⟨s.toArray⟩) 0 cur w hg (by rw[hE.hs,←hV]at hf;simpa using hf) (Lib.strCells_oneCell _)
   simp only[Nat.add_zero]at hst
   rw[hsz]at hf1
   rw[←hV]
   simp[Builtin.append_,run_underlying hE.ht,run_underlying ht2,sizeOf,typeInfo,hE.hi,hE.hs,Builtin.lenOf,hsz,hr,hf1,Addr.add_lit,hst]
  .have:=Lib.run_append_grow_string (P:=P) w t t2 ty zaZ i zv hE.ht ht2 hE.hi hE.hz b sLen sCap olds h1 h2 ⟨s.toArray⟩ (by rw[hsz];exact h3) (by rw[hsz];exact h4) (by rw[hsz];exact h5)
   rw[hsz,hV]at this
   exact this
 .cases he
theorem zdt:∀{es:List AV} {l:List UInt8},zaK es=some l→es=l.map za0
 | [],l,h=>by simp[zaK]at h;subst h;rfl
 |x::r,l,h=>by
  simp only[zaK]at h
  split at h
  .rename_i b l' hb hl
   cases h
   have hx:x=za0 b:=by
    unfold zic at hb
    split at hb
    .split at hb
     .rename_i n hn
      cases hb
      simp only[za0,AV.int.injEq,true_and]
      have:(UInt8.ofNat n.toNat).toNat=n.toNat:=by
       show n.toNat % 256=n.toNat
       exact Nat.mod_eq_of_lt (by omega)
      rw[this];omega
     .cases hb
    .cases hb
   rw[hx,zdt hl];rfl
  .cases h
theorem zqR (h:WR C K w M R H) {t ty:TypeId} {i:TypeInfo} {zv:Value} (hE:zjh P t zaZ 1 i zv) {x y z:AV} {u v:Value} {H':Heap} (hx:VR w M R x u) (hy:VR w M R y v) (he:ex H .appB [x,y]=some (z,H')):
  Eff C K P w M R z H' id (Builtin.append_ #[t,t] ty #[u,v]):=by
 simp only[ex]at he
 split at he
 .rename_i nl s es
  split at he
  .rename_i hs
   split at he
   .rename_i l hl
    have hes:=zdt hl
    subst hes
    have hel:zaC H 1 (.isl nl s (l.map za0))=some (l.map za0):=by simp only[zaC,if_pos hs]
    obtain⟨a,capy,rfl,hsy,hyc⟩:=zcf h.heap hy hel
    rw[List.length_map]
    by_cases hne:l=[]
    .subst hne
     exact zhv h hE hx ⟨fun _ a l c hl=>zb4 hE.ht hE.hi _ _ _ _ _ hl,fun h0=>absurd h0 (by simp),fun g o sLen sCap cur t' h0=>absurd h0 (by simp),fun b sLen sCap olds _ _ h0=>absurd h0 (by simp)⟩ he
    .obtain⟨b2,o2,rfl,hcells⟩:=hyc (by simpa using hne)
     obtain⟨s1,s2,s3,s4⟩:=zbl hsy hcells
     have hrow:zaG w b2 o2 ((l.map za0).length* 1)=byV l:=by
      apply List.ext_getElem?
      intro k
      rcases Nat.lt_or_ge k l.length with hk|hk
      .have h1:(l.map za0)[k]?=some (za0 l[k]):=by simp[hk]
       obtain⟨q,q1,q2⟩:=hcells k _ 0 _ h1 rfl
       cases q2
       have h2:k<(zaG w b2 o2 ((l.map za0).length* 1)).length:=by rw[s1];simpa using hk
       have h3:=s2 k _ (gEg h2)
       rw[zat]at h3
       rw[Nat.mul_one,Nat.add_zero]at q1
       rw[q1]at h3
       rw[gEg h2,←h3]
       simp[byV,hk]
      .rw[List.getElem?_eq_none (by rw[s1];simpa using hk),List.getElem?_eq_none (by simpa[byV]using hk)]
     have s4':∀v∈byV l,v.oneCell'=true:=by
      intro v hv
      obtain⟨b,_,rfl⟩:=List.mem_map.1 hv
      rfl
     rw[hrow]at s1 s2
     have hVl:(byV l).length=l.length* 1:=by simp[byV]
     exact zhv h hE hx ⟨fun h0=>absurd (List.length_eq_zero_iff.1 h0) hne,fun hpos h63 h48=>run_append_nil (P:=P) w t ty zaZ i zv hE.ht hE.hi hE.hz ⟨b2,o2,none⟩ l.length capy _ (by rw[hE.hs];exact hVl) s2 hpos h63 h48,
      fun g o sLen sCap cur t' _ hg hr hf=>zbU (P:=P) (w:=w) (ty:=ty) hE.ht hE.hi g o sLen sCap cur hg ⟨b2,o2,none⟩ l.length capy _ (by rw[hE.hs];exact hVl) s2 s4' hr hf,
      fun b sLen sCap olds h1 h2 _ h3 h4 h5=>run_append_grow (P:=P) w t ty zaZ i zv hE.ht hE.hi hE.hz b sLen sCap olds h1 h2 ⟨b2,o2,none⟩ l.length capy _ (by rw[hE.hs];exact hVl) s2 h3 h4 h5⟩ he
   .cases he
  .cases he
 .cases he
theorem znx (h:WR C K w M R H) {t tg sz:Nat} {x z:AV} {u:Value} {H':Heap} (hx:VR w M R x u) (he:ex H (.boxH tg sz) [x]=some (z,H')):Eff C K P w M R z H' id (Instr.box t u):=by
 simp only[ex]at he
 split at he
 .rename_i n0 hfind
  split at he
  .rename_i hc
   cases he
   obtain⟨hs,hv⟩:=hx.cr (zan hc.2)
   have hno:∀v,R n0 v=none:=h.heap.blk n0 _ (zO hfind)
   have hev:Evol R M w (zI R n0 ⟨sz,w.heap.size,1,0⟩) (z6 M w.heap.size) (w.alloc (.cells u.cells t)):=by
    refine⟨by show w.heap.size≤(w.heap.push _).size;simp,fun b o' v hc' _=>?_,fun id ver g' hg=>?_,fun b o' hb hm=>?_,fun b es cl h1 _=>(Below.heap_alloc _ _ _ (Array.getElem?_eq_some_iff.1 h1).1).trans h1,fun b im c0 s0 d0 h1 _=>(Below.heap_alloc _ _ _ (Array.getElem?_eq_some_iff.1 h1).1).trans h1⟩
    .rw[zN (Below.heap_alloc _ _ _ (zaS hc'))];exact hc'
    .unfold zI
     rw[if_neg (fun e=>by subst e;rw[hno]at hg;cases hg)];exact hg
    .rcases hm with hm|hm
     .exact hm
     .omega
   obtain⟨g1,g2⟩:=h.fillBlk (.cells u.cells t) (.arr 0 sz false [x]) ⟨sz,w.heap.size,1,0⟩ (zO hfind) rfl rfl ⟨⟨sz,w.heap.size,1,0⟩,u.cells,t,by simp[zI,Blk.ver],fun v hv=>by simp[zI];omega,rfl,zA w _,(by rw[hs,hc.1];simp),by simp,fun i e hi=>by
     cases i with
     |zero=>simp at hi;subst hi;exact hc.1
     |succ i=>simp at hi,fun i e j y v hi hj hu=>by
     cases i with
     |zero=>simp at hi;subst hi;exact (hv j y v hj (by simpa using hu)).evol hev
     |succ i=>simp at hi,fun _ _=> .inr rfl,fun _ _=> .inr rfl⟩
   refine⟨_,_,_,_,rfl,?_,g1,g2⟩
   have:=VR.optr (w:=w.alloc (.cells u.cells t)) (M:=z6 M w.heap.size) (zI R n0 ⟨sz,w.heap.size,1,0⟩) n0 0 0 0 ⟨sz,w.heap.size,1,0⟩ (by simp[zI])
   simpa using this
  .cases he
 .cases he
theorem znw (h:WR C K w M R H) {t sz:Nat} {x z:AV} {u:Value} {H':Heap} (hx:VR w M R x u) (he:ex H (.boxT t sz) [x]=some (z,H')):Eff C K P w M R z H' id (Instr.box t u):=by
 simp only[ex]at he
 split at he
 .rename_i hc
  cases he
  obtain⟨hs,hv⟩:=hx.cr (zan hc.2)
  have he:=zcV h (.cells u.cells t) ⟨sz,w.heap.size,1,0⟩
  obtain⟨h1,h2⟩:=h.newBlk (.cells u.cells t) (.bx t x.cells) ⟨sz,w.heap.size,1,0⟩ rfl rfl ⟨⟨sz,w.heap.size,1,0⟩,u.cells,by simp[zB],fun v hv=>by simp[zB];omega,zA w _,hs,fun j y v hj hu=>(hv j y v hj hu).evol he,fun o=> .inr rfl⟩
  exact⟨_,_,_,_,rfl,.bptr _ _ _ ⟨sz,w.heap.size,1,0⟩ (by simp[zB]),h1,h2⟩
 .cases he
theorem zqJ (h:WR C K w M R H) {t:TypeId} {x z:AV} {u:Value} {H':Heap} (hx:VR w M R x u) (he:ex H .rngs [x]=some (z,H')) (ht:P.underlying t=some .string):Eff C K P w M R z H' id (Instr.range t u):=by
 cases x<;>simp only[ex]at he<;>try cases he
 cases hx
 rename_i s
 obtain⟨g1,g2⟩:=h.newBlk (.stringIter ⟨s.toArray⟩ 0) (.sit s 0) ⟨1,w.heap.size,0,0⟩ rfl rfl ⟨⟨1,w.heap.size,0,0⟩,by simp[zB],fun v hv=>by simp[zB];omega,zA w _⟩
 exact⟨_,_,_,_,run_range_string w t _ ht,.oit _ _ ⟨1,w.heap.size,0,0⟩ (by simp[zB]),g1,g2⟩
theorem zs0 (h:WR C K w M R H) {ty:TypeId} {x z:AV} {u:Value} {H':Heap} (hx:VR w M R x u) (he:ex H .nxt [x]=some (z,H')):Eff C K P w M R z H' id (Instr.next u true ty):=by
 cases x<;>simp only[ex]at he<;>try cases he
 rename_i id
 split at he
 .rename_i s p hb
  obtain⟨g,h1,h2,h3⟩:=h.heap.blk id _ hb
  cases hx with
  |oit R _ g' hg'=>
   rw[h1]at hg';cases hg'
   split at he
   .rename_i hlt
    cases he
    obtain⟨g1,g2⟩:=h.putSit (p':=p+(zct s p).2) hb h1 h3
    refine⟨_,_,_,_,Lib.run_next_any_at w g.blk ⟨s.toArray⟩ p ty h3 hlt,?_,g1,g2⟩
    refine .tuple _ _ _ rfl fun j c u hc hu=>?_
    match j,hc,hu with
    |0,hc,hu=>simp at hc hu;subst hc;subst hu;exact .bool _ _
    |1,hc,hu=>simp at hc hu;subst hc;subst hu;exact .int _ _ _
    |2,hc,hu=>simp at hc hu;subst hc;subst hu;exact .int _ _ _
    |j+3,hc,hu=>simp at hc
   .rename_i hlt
    cases he
    refine⟨_,w,M,R,Lib.run_next_end_at w g.blk ⟨s.toArray⟩ p ty h3 hlt,?_,h,Evol.refl _ _ _⟩
    refine .tuple _ _ _ rfl fun j c u hc hu=>?_
    match j,hc,hu with
    |0,hc,hu=>simp at hc hu;subst hc;subst hu;exact .bool _ _
    |j+1,hc,hu=>simp at hc
 .cases he
theorem zcu {r:Nat} {es:Array MapEntry} {clock:Nat} {o':Obj} (hb:w.heap[r]?=some (.map es clock)):(setObj r o').run P w= .ok () (w.putObj r o'):=by
 simp[setObj,Sem.run,hb,World.putObj]
theorem znv (h:WR C K w M R H) {t kt et:TypeId} {d:TypeDesc} {q:Nat} {m k x z:AV} {u v y:Value} {H':Heap} (hm:VR w M R m u) (hk:VR w M R k v) (hx:VR w M R x y) (he:ex H (.mput q) [m,k,x]=some (z,H'))
  (ht:P.underlying t=some (.map kt et)) (hd:P.underlying kt=some d) (hq:keyQ d=some q):Eff C K P w M R z H' (fun _:Unit=>undef) (Instr.mapUpdate t u v y):=by
 simp only[ex]at he
 split at he
 .rename_i id
  split at he
  .rename_i es hb
   split at he
   .obtain⟨g,es',clock,h1,h2,h3,h4,hM0,⟨hb1,hb2⟩,h5⟩:=h.heap.blk id _ hb
    cases hm with
    |omap R _ g' hg'=>
     rw[h1]at hg';cases hg'
     cases hf:zbM q k es 0 with
     |none=>simp[hf]at he
     |some r=>
      simp only[hf]at he
      rcases zh4 hq hk es es'.toList 0 r (by simpa using h4) (fun i a b e hi he=>h5 i a b e hi (by simpa using he)) hf with⟨rfl,f2⟩|⟨j,a,b,e,rfl,f1,f2,f3,f4⟩
      .simp only[Option.some.injEq,Prod.mk.injEq]at he
       obtain⟨rfl,rfl⟩:=he
       obtain⟨g1,g2⟩:=h.putMap (a':=es'.push {key:=v,val:=y,born:=clock}) (clock':=clock+1) (es2:=es++[(k,x)]) hb h1 h3 (by simp[h4]) ⟨by
        intro e he
        simp only[Array.toList_push,List.mem_append,List.mem_cons,List.not_mem_nil,or_false]at he
        rcases he with he|rfl
        .exact Nat.lt_succ_of_lt (hb1 e he)
        .exact Nat.lt_succ_self _,by
        simp only[Array.toList_push,List.map_append,List.map_cons,List.map_nil]
        refine List.nodup_append.2 ⟨hb2,by simp,?_⟩
        intro a ha b hb'
        simp only[List.mem_cons,List.not_mem_nil,or_false]at hb'
        obtain⟨e,he,rfl⟩:=List.mem_map.1 ha
        have:=hb1 e he
        omega⟩ (fun i a b e hi hE=>by
        rw[Array.getElem?_push]at hE
        by_cases hii:i=es'.size
        .rw[if_pos hii]at hE
         cases hE
         rw[hii,h4]at hi
         simp at hi
         obtain⟨rfl,rfl⟩:=hi
         exact⟨hk,hx⟩
        .rw[if_neg hii]at hE
         have hil:i<es.length:=by
          have:=(Array.getElem?_eq_some_iff.1 hE).1
          omega
         rw[gEa hil]at hi
         exact h5 i a b e hi hE)
       refine⟨(),_,_,_,?_,.und _,g1,g2⟩
       unfold Instr.mapUpdate
       simp only[Sem.run_bind,run_underlying ht,Result.andThen,zcP h3,za6 hq hd,Go.MapKept.run_findKey hd f2]
       exact zcu h3
      .simp only[Option.some.injEq,Prod.mk.injEq,Nat.zero_add]at he
       obtain⟨rfl,rfl⟩:=he
       have hj:j<es'.size:=by
        have:=(gEs.1 f2).1
        simpa using this
       have hej:es'[j]?=some e:=by simpa using f2
       obtain⟨g1,g2⟩:=h.putMap (a':=es'.modify j fun e=>{e with key:=v,val:=y}) (clock':=clock) (es2:=es.set j (k,x)) hb h1 h3 (by simp[h4]) (by
        have hborn:(es'.modify j fun e=>{e with key:=v,val:=y}).toList.map (·.born)=es'.toList.map (·.born):=by
         rw[Array.toList_modify]
         apply List.ext_getElem?
         intro i
         simp only[List.getElem?_map,List.getElem?_modify]
         by_cases hij:j=i
         .subst hij;cases es'.toList[j]?<;>simp
         .cases es'.toList[i]?<;>simp[hij]
        refine⟨?_,by rw[hborn];exact hb2⟩
        intro e he
        have:e.born∈(es'.modify j fun e=>{e with key:=v,val:=y}).toList.map (·.born):=List.mem_map.2 ⟨e,he,rfl⟩
        rw[hborn]at this
        obtain⟨e0,h0,h1⟩:=List.mem_map.1 this
        rw[←h1];exact hb1 e0 h0) (fun i a b e' hi hE=>by
        rw[Array.getElem?_modify]at hE
        by_cases hii:j=i
        .subst hii
         rw[if_pos rfl,hej]at hE
         cases hE
         rw[gEt (by omega)]at hi
         cases hi
         exact⟨hk,hx⟩
        .rw[if_neg hii]at hE
         rw[gEn hii]at hi
         exact h5 i a b e' hi hE)
       refine⟨(),_,_,_,?_,.und _,g1,g2⟩
       have hkeep:(Instr.keyThatStays (((es'[j]?).map (·.key)).getD v) v).run P w= .ok v w:=by
        rw[hej]
        unfold Instr.keyThatStays
        simp only[Option.map_some,Option.getD_some,f4,if_true]
        rfl
       unfold Instr.mapUpdate
       simp only[Nat.zero_add]at f3
       simp only[Sem.run_bind,run_underlying ht,Result.andThen,zcP h3,za6 hq hd,Go.MapKept.run_findKey hd f3,hkeep]
       exact zcu h3
   .cases he
  .cases he
 .cases he
theorem zs1 (h:WR C K w M R H) {t e ty:TypeId} {sz:Nat} {zv:Value} {x z:AV} {u:Value} {H':Heap} (hx:VR w M R x u) (he:ex H (.clr sz (ofV zv)) [x]=some (z,H'))
  (ht:P.underlying t=some (.slice e)) (hz:zcx P e=some zv):Eff C K P w M R z H' id (Builtin.clear_ #[t] ty #[u]):=by
 simp only[ex]at he
 split at he
 .rename_i id ver off len
  split at he
  .rename_i ver' s es hb
   split at he
   .rename_i hc
    obtain⟨e1,e2,e3,e4,e5,e6⟩:=hc
    subst e1;subst e2
    cases he
    obtain⟨g,c,t',k1,k2,k3,k4,k5,k6,k7,k8,k9,k10⟩:=h.heap.blk id _ hb
    cases hx with
    |osl R _ _ _ _ g' aa hg' hle haa=>
     rw[k1]at hg';cases hg'
     rw[haa (by omega)]
     obtain⟨zc1,zc2⟩:=zeN (w:=w) (M:=M) (R:=R) zv
     have hz0:zv.cells.size=s:=by omega
     let zs:=Builtin.zeroCells zv.cells len
     have hzs:zs.size=len* s:=by rw[show zs.size=len* zv.cells.size from by simp[zs,Builtin.zeroCells],hz0]
     have hzget:∀i j,i<len→j<s→zs[i* s+j]?=zv.cells[j]?:=by
      intro i j hi hj
      have:=zfk (z:=zv.cells) (n:=len) hz0 hi hj
      simp only[zs,Builtin.zeroCells]
      rw[hz0]at this⊢
      exact this
     have hone:∀v∈zs.toList,v.oneCell'=true:=by
      have hc1:∀v∈zv.cells,v.oneCell'=true:=zej (VR.ofV w M R zv) (zan e6) e6
      intro v hv
      obtain⟨k,hk,rfl⟩:=List.mem_iff_getElem.1 hv
      have hk':k<len* s:=by rw[←hzs];simpa using hk
      obtain⟨d1,d2,d3⟩:=ze2 hk'
      have h1:=hzget (k/s) (k % s) d1 d2
      rw[d3]at h1
      have h2:zs[k]?=some zs.toList[k]:=by simp
      rw[h2]at h1
      exact hc1 _ (Array.mem_of_getElem? h1.symm)
     have hfit:g.bs+off* s+0+zs.toList.length≤c.size:=by
      rw[k5,Array.length_toList,hzs,Nat.add_zero,Nat.add_assoc,←Nat.add_mul]
      exact Nat.add_le_add_left (Nat.mul_le_mul_right _ (by omega)) _
     have hst:=run_storeCells_at P g.blk (g.bs+off* s) t' zs.toList 0 c w k4 hfit hone
     simp only[Nat.add_zero]at hst hfit
     let c':Array Value:=(c.toList.take (g.bs+off* s)++zs.toList++c.toList.drop (g.bs+off* s+zs.toList.length)).toArray
     have hget:∀k,c'[k]?=if k<g.bs+off* s then c[k]? else if k<g.bs+off* s+len* s then zs[k - (g.bs+off* s)]? else c[k]?:=by
      intro k
      show ((c.toList.take (g.bs+off* s)++zs.toList++c.toList.drop (g.bs+off* s+zs.toList.length)).toArray)[k]?=_
      rw[List.getElem?_toArray,zc7 _ _ _ _ (by simpa using hfit),Array.length_toList,hzs]
      simp only[Array.getElem?_toList]
     have hcs':c'.size=c.size:=by
      show ((c.toList.take (g.bs+off* s)++zs.toList++c.toList.drop (g.bs+off* s+zs.toList.length)).toArray).size=_
      simp only[List.size_toArray,List.length_append,List.length_take,List.length_drop,Array.length_toList]
      simp only[Array.length_toList]at hfit
      omega
     have hel:∀(i:Nat),(es.take off++List.replicate len (ofV zv)++es.drop (off+len))[i]?=if i<off then es[i]? else if i<off+len then some (ofV zv) else es[i]?:=by
      intro i
      rcases Nat.lt_or_ge i off with h1|h1
      .rw[if_pos h1,List.append_assoc,gEa (by simp;omega),List.getElem?_take,if_pos h1]
      .rw[if_neg (by omega)]
       rcases Nat.lt_or_ge i (off+len) with h2|h2
       .rw[if_pos h2,gEa (by simp;omega),List.getElem?_append_right (by simp;omega),List.getElem?_replicate,if_pos (by simp;omega)]
       .rw[if_neg (by omega),List.getElem?_append_right (by simp;omega)]
        simp only[List.length_append,List.length_take,List.length_replicate,List.getElem?_drop]
        congr 1;omega
     obtain⟨r1,r2⟩:=h.set (c':=c') (es':=es.take off++List.replicate len (ofV zv)++es.drop (off+len)) (ver':=ver') hb k1 k4 hcs' (fun o y ho hm=>absurd (k9 rfl o) hm) (.inr ⟨rfl,rfl⟩) rfl k3 k5
      (by simp;omega) (by rw[show (es.take off++List.replicate len (ofV zv)++es.drop (off+len)).length=es.length by simp;omega];exact Nat.le_refl _) (fun i e hi=>by
       rw[hel]at hi
       split at hi
       .exact k7 i e hi
       .split at hi
        .cases hi;exact e5
        .exact k7 i e hi) (fun i e j x q hi hj hq=>by
       rw[hel]at hi
       rw[hget]at hq
       have hjs:∀e',(AV.cells e').length=s→(AV.cells e')[j]?=some x→j<s:=fun e' h1 h2=>by rw[←h1];exact (gEs.1 h2).1
       split at hi
       .rename_i h1
        have hj':=hjs e (k7 i e hi) hj
        have:g.bs+(i* s+j)<g.bs+off* s:=by
         have:=Nat.mul_le_mul_right s (show i+1≤off by omega)
         rw[Nat.add_mul]at this;omega
        rw[if_pos this]at hq
        exact k8 i e j x q hi hj hq
       .rename_i h1
        have hge:off* s≤i* s:=Nat.mul_le_mul_right s (by omega)
        split at hi
        .rename_i h2
         cases hi
         have hj':=hjs _ e5 hj
         have h3:(i - off)* s+j<len* s:=by
          have:=Nat.mul_le_mul_right s (show (i - off)+1≤len by omega)
          rw[Nat.add_mul (i - off)]at this;omega
         have h4:i* s=off* s+(i - off)* s:=by rw[←Nat.add_mul];congr 1;omega
         rw[if_neg (by omega),if_pos (by omega)]at hq
         rw[show g.bs+(i* s+j) - (g.bs+off* s)=(i - off)* s+j by omega,hzget _ _ (by omega) hj']at hq
         exact zc2 j x q hj hq
        .rename_i h2
         have hge2:(off+len)* s≤i* s:=Nat.mul_le_mul_right s (by omega)
         rw[Nat.add_mul]at hge2
         rw[if_neg (by omega),if_neg (by omega)]at hq
         exact k8 i e j x q hi hj hq)
     obtain⟨m,rfl⟩:∃m,len=m+1:=⟨len - 1,by omega⟩
     refine⟨.tuple #[],_,_,_,?_,.tuple _ _ _ rfl (fun j c u hj=>by simp at hj),r1,r2⟩
     have hzv:=zap (P:=P) hz w
     unfold Builtin.clear_
     simp only[List.getElem?_toArray,gEz]
     simp only[Sem.run_bind,run_underlying ht,Result.andThen,hzv,hst,Sem.run_pure]
     have hst':(storeCells ⟨g.blk,g.bs+off* s,none⟩ (Builtin.zeroCells zv.cells (m+1)).toList 0).run P w= .ok () (w.setRow g.blk c'):=hst
     rw[k3,hst']
   .cases he
  .cases he
 .cases he
/-! ### Memory that is given away for good -/
theorem WR.share (h:WR C K w M R H) {id ver sz:Nat} {sh:Bool} {es:List AV} (hb:H[id]?=some (.arr ver sz sh es)):∃M1,WR C K w M1 R (H.set id (.arr ver sz true es))∧Evol R M w R M1 w∧∀g,R id ver=some g→∀o,g.bs≤o→o<g.bs+es.length* sz→¬M1 g.blk o:=by
 have hid:id<H.length:=(gEs.1 hb).1
 obtain⟨g,c,t,h1,h2,h3,h4,h5,h6,h7,h8,h9,h10⟩:=h.heap.blk id _ hb
 let M1:Mut:=fun b o=>M b o∧¬(b=g.blk∧g.bs≤o∧o<g.bs+es.length* sz)
 have he:Evol R M w R M1 w:=⟨Nat.le_refl _,fun _ _ _ hc _=>hc,fun _ _ _ hg=>hg,fun _ _ _ hm=>hm.1,fun _ _ _ h _=>h,fun _ _ _ _ _ h _=>h⟩
 have old:∀(k:Nat) (B:Blk),(H.set id (.arr ver sz true es))[k]?=some B→∃B':Blk,H[k]?=some B'∧B'.ver=B.ver:=by
  intro k B hk
  by_cases hkk:k=id
  .subst hkk
   rw[gEt hid]at hk
   cases hk
   exact⟨_,hb,rfl⟩
  .rw[gEn (fun e=>hkk e.symm)]at hk
   exact⟨B,hk,rfl⟩
 refine⟨M1,⟨⟨fun k B hk=>?_,fun i v g hi=>?_,fun i j Bi Bj gi gj hi hj hgi hgj hbb=>?_⟩,fun p hp=>(h.pins p hp).evol he,h.below,h.base,fun b o hbo=>?_,h.le,h.marks,h.nodup⟩,he,fun g' hg' o ho0 ho hm=>?_⟩
 .by_cases hkk:k=id
  .subst hkk
   rw[gEt hid]at hk
   cases hk
   exact⟨g,c,t,h1,h2,h3,h4,h5,h6,h7,fun i e j x u a b d=>(h8 i e j x u a b d).evol he,(fun e=>by cases e),fun o ho=>⟨h10 o ho,fun hh=>by omega⟩⟩
  .rw[gEn (fun e=>hkk e.symm)]at hk
   refine (h.heap.blk k B hk).keep he (fun _=>rfl) (fun _ _=>rfl) (fun g' hg' o hm=>⟨hm,fun hh=>hkk ?_⟩)
   exact h.heap.inj k id B _ g' g hk hb hg' h1 hh.1
 .rw[List.length_set];exact h.heap.dom i v g hi
 .obtain⟨Bi',a1,a2⟩:=old i Bi hi
  obtain⟨Bj',b1,b2⟩:=old j Bj hj
  exact h.heap.inj i j Bi' Bj' gi gj a1 b1 (by rw[a2];exact hgi) (by rw[b2];exact hgj) hbb
 .have:=h.base id ver g h1
  exact⟨fun hm=>(h.sub b o hbo).1 hm.1,fun hm=>⟨(h.sub b o hbo).2 hm,fun hh=>by omega⟩⟩
 .rw[h1]at hg';cases hg'
  exact hm.2 ⟨rfl,ho0,ho⟩
theorem zjJ (h:WR C K w M R H) {x:AV} {u:Value} (hx:VR w M R x u):∃M1,WR C K w M1 R (pub1 H x).2∧Evol R M w R M1 w∧VR w M1 R (pub1 H x).1 u:=by
 have same:∃M1,WR C K w M1 R H∧Evol R M w R M1 w∧VR w M1 R x u:=⟨M,h,Evol.refl _ _ _,hx⟩
 unfold pub1
 split
 .rename_i id ver off len
  split
  .rename_i v' s sh es hb
   split
   .rename_i hc
    obtain⟨c1,c2,c3⟩:=hc
    subst c1
    obtain⟨M1,w1,w2,w3⟩:=h.share hb
    refine⟨M1,w1,w2,?_⟩
    obtain⟨g,c,t,h1,h2,h3,h4,h5,h6,h7,h8,h9,h10⟩:=h.heap.blk id _ hb
    cases hx with
    |osl R _ _ _ _ g' aa hg' hle haa=>
     rw[h1]at hg';cases hg'
     have hin:∀(i:Nat) (e:AV),((es.drop off).take len)[i]?=some e→es[off+i]?=some e∧i<len:=by
      intro i e hi
      rw[List.getElem?_take]at hi
      split at hi
      .rw[List.getElem?_drop]at hi;exact⟨hi,by assumption⟩
      .cases hi
     have hcell:∀(i:Nat) (e:AV) (j:Nat) (x:AV),es[off+i]?=some e→(AV.cells e)[j]?=some x→∃u,c[g.bs+((off+i)* s+j)]?=some u∧VR w M R x u∧(off+i)* s+j<es.length* s:=by
      intro i e j x hi hj
      have hjl:j<s:=by rw[←h7 _ e hi];exact (gEs.1 hj).1
      have hil:=(gEs.1 hi).1
      have hlt:(off+i)* s+j<es.length* s:=by
       have:=Nat.mul_le_mul_right s (show off+i+1≤es.length by omega)
       rw[Nat.add_mul (off+i)]at this;omega
      have hlc:g.bs+((off+i)* s+j)<c.size:=by
       rw[h5];have:=Nat.mul_le_mul_right s h6;omega
      exact⟨c[g.bs+((off+i)* s+j)],Array.getElem?_eq_getElem hlc,h8 _ e j x _ hi hj (Array.getElem?_eq_getElem hlc),hlt⟩
     have hlen:((es.drop off).take len).length=len:=by simp;omega
     have key:=VR.isl (w:=w) (M:=M1) R (some false) s ((es.drop off).take len) (some aa) (g.cap - off) g.blk (g.bs+off* s) (fun i j=>(c[g.bs+((off+i)* s+j)]?).getD undef) (by simp) (by simp) (by rw[hlen];omega) (fun hne=>by rw[haa (by have:0<((es.drop off).take len).length:=List.length_pos_iff.2 hne;omega),h3]) (fun i e hi=>h7 _ e (hin i e hi).1) ?_ ?_
     .rw[hlen]at key;exact key
     .intro i e j x hi hj
      obtain⟨u,q1,q2,q3⟩:=hcell i e j x (hin i e hi).1 hj
      have e1:g.bs+off* s+(i* s+j)=g.bs+((off+i)* s+j):=by rw[Nat.add_mul];omega
      rw[e1]
      refine⟨?_,w3 g h1 _ (by omega) (by omega)⟩
      unfold World.cell?
      rw[h4]
      simp[q1]
     .intro i e j x hi hj
      obtain⟨u,q1,q2,q3⟩:=hcell i e j x (hin i e hi).1 hj
      have hst:=List.all_eq_true.1 (List.all_eq_true.1 c3 e (List.mem_of_getElem? hi)) x (List.mem_of_getElem? hj)
      simp only[q1,Option.getD_some]
      exact (q2.evol w2).still hst
   .exact same
  .exact same
 .exact same
theorem zhU:∀{xs:List AV} {us:List Value} {H:Heap} {M:Mut},WR C K w M R H→VRs w M R xs us→∃M1,WR C K w M1 R (zda H xs).2∧Evol R M w R M1 w∧VRs w M1 R (zda H xs).1 us
 | [],us,H,M,h,hx=>by rw[hx.inv_nil];exact⟨M,h,Evol.refl _ _ _,VRs.nil⟩
 |x::xs,us,H,M,h,hx=>by
  obtain⟨u,us',rfl,h1,h2⟩:=hx.inv_cons
  obtain⟨M1,a1,a2,a3⟩:=zjJ h h1
  obtain⟨M2,b1,b2,b3⟩:=zhU a1 (h2.evol a2)
  exact⟨M2,b1,a2.trans b2,VRs.cons (a3.evol b2) b3⟩
theorem znS (h:WR C K w M R H) {x:AV} {u:Value} (hx:VR w M R x u):∃M1,WR C K w M1 R (pubA H x).2∧Evol R M w R M1 w∧VR w M1 R (pubA H x).1 u:=by
 unfold pubA
 split
 .rename_i cs
  cases hx with
  |agg R _ vs hs hv=>
   obtain⟨M1,a1,a2,a3⟩:=zhU (us:=vs.toList) h ⟨by simpa using hs,fun j c u hc hu=>hv j c u hc (by simpa using hu)⟩
   exact⟨M1,a1,a2,.agg _ _ _ (by simpa using a3.1) fun j c u hc hu=>a3.2 j c u hc (by simpa using hu)⟩
 .exact zjJ h hx
theorem zhV:∀{xs:List AV} {us:List Value} {H:Heap} {M:Mut},WR C K w M R H→VRs w M R xs us→∃M1,WR C K w M1 R (zbW H xs).2∧Evol R M w R M1 w∧VRs w M1 R (zbW H xs).1 us
 | [],us,H,M,h,hx=>by rw[hx.inv_nil];exact⟨M,h,Evol.refl _ _ _,VRs.nil⟩
 |x::xs,us,H,M,h,hx=>by
  obtain⟨u,us',rfl,h1,h2⟩:=hx.inv_cons
  obtain⟨M1,a1,a2,a3⟩:=znS h h1
  obtain⟨M2,b1,b2,b3⟩:=zhV a1 (h2.evol a2)
  exact⟨M2,b1,a2.trans b2,VRs.cons (a3.evol b2) b3⟩
/-! ### Bytes and strings -/
theorem zsZ (h:WR C K w M R H) {src dst e:TypeId} {x z:AV} {u:Value} {H':Heap} (hx:VR w M R x u) (he:ex H .s2b [x]=some (z,H'))
  (hs:P.underlying src=some .string) (hd:P.underlying dst=some (.slice e)) (h8:P.underlying e=some (.int .u8)):Eff C K P w M R z H' id (convert src dst u):=by
 cases x<;>simp only[ex]at he<;>try cases he
 rename_i l
 cases hx
 have hrun:=run_bytes_of_string w src dst e ⟨l.toArray⟩ hs hd h8
 obtain⟨d1,d2⟩:=h.same (w':=w.drew) rfl rfl rfl rfl
 have hge:=grownCap_ge w (ByteArray.size ⟨l.toArray⟩) 0 e
 have hsz:ByteArray.size ⟨l.toArray⟩=l.length:=by simp[ByteArray.size]
 rw[hsz]at hrun hge
 obtain⟨o,ho⟩:∃o,o=Obj.cells (bytesRow ⟨l.toArray⟩ (grownCap w l.length 0 e)) e ((bytesRow ⟨l.toArray⟩ (grownCap w l.length 0 e)).size,(bytesRow ⟨l.toArray⟩ (grownCap w l.length 0 e)).size+1):=⟨_,rfl⟩
 rw[←ho]at hrun
 obtain⟨g1,g2⟩:=d1.allocImm o
 refine⟨_,_,_,_,hrun,?_,g1,d2.trans g2⟩
 have hcell:∀i,(hi:i<l.length)→(w.drew.alloc o).cell? ⟨w.heap.size,i,none⟩=some (.int .u8 (l[i].toNat:Int)):=by
  intro i hi
  have hh:(w.drew.alloc o).heap[w.heap.size]?=some o:=zA w.drew _
  unfold World.cell?
  rw[hh,ho]
  show (bytesRow ⟨l.toArray⟩ (grownCap w l.length 0 e))[i]?=_
  unfold bytesRow
  rw[Array.getElem?_append_left (by simp;exact hi)]
  simp[hi]
 have key:=VR.isl (w:=w.drew.alloc o) (M:=zgc M w.drew.heap.size) R (some false) 1 (l.map za0) (some ⟨w.heap.size,0,none⟩) (grownCap w l.length 0 e) w.heap.size 0 (fun i j=>(l.map fun b=>Value.int .u8 b.toNat).getD i undef) (by simp) (by simp) (by simpa using hge) (fun _=>rfl) (fun i x hi=>by
  rw[List.getElem?_map]at hi
  cases hl:l[i]? with
  |none=>simp[hl]at hi
  |some b=>simp[hl]at hi;subst hi;rfl) ?_ ?_
 .simpa using key
 .intro i x j c hi hj
  rw[List.getElem?_map]at hi
  cases hl:l[i]? with
  |none=>simp[hl]at hi
  |some b=>
   simp[hl]at hi;subst hi
   obtain⟨h1,h2⟩:=gEs.1 hl
   have hj0:j=0:=by
    have:=(gEs.1 hj).1
    simp[za0,AV.cells]at this;exact this
   subst hj0
   refine⟨?_,fun hm=>by have:=hm.2;exact absurd this (by show ¬w.heap.size<w.heap.size;omega)⟩
   rw[show 0+(i* 1+0)=i by omega,hcell i h1,h2]
   simp[hl]
 .intro i x j c hi hj
  rw[List.getElem?_map]at hi
  cases hl:l[i]? with
  |none=>simp[hl]at hi
  |some b=>
   simp[hl]at hi;subst hi
   have hj0:j=0:=by
    have:=(gEs.1 hj).1
    simp[za0,AV.cells]at this;exact this
   subst hj0
   simp[za0,AV.cells]at hj;subst hj
   simp[hl];exact .int _ _ _
theorem zek:∀{es:List AV} {l:List UInt8},zaK es=some l→l.length=es.length∧∀(i:Nat) (b:UInt8),l[i]?=some b→es[i]?=some (za0 b)
 | [],l,h=>by simp[zaK]at h;subst h;simp
 |x::r,l,h=>by
  simp only[zaK]at h
  split at h
  .rename_i b l' h1 h2
   cases h
   obtain⟨e1,e2⟩:=zek h2
   refine⟨by simp[e1],fun i c hc=>?_⟩
   cases i with
   |zero=>
    simp at hc;subst hc
    unfold zic at h1
    split at h1
    .rename_i n
     split at h1
     .rename_i hn
      cases h1
      simp only[gEz,za0]
      congr 2
      rw[UInt8.toNat_ofNat']
      omega
     .cases h1
    .cases h1
   |succ i=>simp at hc⊢;exact e2 i c hc
  .cases h
theorem zrw (hh:HR C w M R H) {src dst e:TypeId} {x z:AV} {u:Value} (hx:VR w M R x u) (hz:(match zaC H 1 x with|some es=>(match zaK es with|some l=>AV.str l|none=> .bad)|none=> .bad)=z) (hok:z≠.bad)
  (hs:P.underlying src=some (.slice e)) (h8:P.underlying e=some (.int .u8)) (hd:P.underlying dst=some .string):zae P w M R z (convert src dst u):=by
 cases hes:zaC H 1 x with
 |none=>simp only[hes]at hz;exact absurd hz.symm hok
 |some es=>
  simp only[hes]at hz
  cases hl:zaK es with
  |none=>simp only[hl]at hz;exact absurd hz.symm hok
  |some l=>
   simp only[hl]at hz
   subst hz
   obtain⟨a,cap,rfl,hsy,hyc⟩:=zcf hh hx hes
   obtain⟨b1,b2⟩:=zek hl
   cases l with
   |nil=>
    have:es=[]:=by simpa using b1.symm
    subst this
    refine⟨.string ⟨#[]⟩,?_,.str _ _⟩
    cases a with
    |none=>simp only[List.length_nil];rw[run_convert_bytes_string w src dst e none 0 cap hs h8 hd];rfl
    |some a=>exact run_convert_bytes_back w src dst e a cap [] hs h8 hd (fun j hj=>by simp at hj)
   |cons b0 r=>
    have hne:es≠[]:=by intro e0;subst e0;simp at b1
    obtain⟨b,o,rfl,hc⟩:=hyc hne
    refine⟨_,?_,.str _ (b0::r)⟩
    rw[←b1]
    refine run_convert_bytes_back w src dst e ⟨b,o,none⟩ cap (b0::r) hs h8 hd (fun j hj=>?_)
    have h1:=b2 j (b0::r)[j] (gEg hj)
    obtain⟨u,q1,q2⟩:=hc j _ 0 _ h1 rfl
    rw[zat,show o+j=o+(j* 1+0) by omega,q1]
    cases q2
    rfl
/-! ### Arrays of one-cell elements -/
theorem zd3 {d:Nat} {e:TypeId} {q:Nat} (hq:zgk P e=some q) {as bs:List AV} {us vs:Array Value} (ha:CR w M R as us) (hb:CR w M R bs vs):∀(n k:Nat) (b:Bool),zcc (List.replicate n q) (as.drop k) (bs.drop k)=some b→
  (Op.eqItems (d+1) e 1 us vs (List.range' k n)).run P w= .ok b w
 |0,k,b,he=>by
  unfold zcc at he
  split at he<;>simp_all [Op.eqItems]
 |n+1,k,b,he=>by
  rw[List.replicate_succ]at he
  unfold zcc at he
  split at he
  .simp at *
  .rename_i q0 qs0 x xs y ys h1 h2 h3
   cases h1
   split at he
   .rename_i b1 b2 e1 e2
    cases he
    have hx:as[k]?=some x:=by
     have:=congrArg (·[0]?) h2
     simpa using this
    have hy:bs[k]?=some y:=by
     have:=congrArg (·[0]?) h3
     simpa using this
    have hkx:k<us.size:=by rw[ha.1];exact (gEs.1 hx).1
    have hky:k<vs.size:=by rw[hb.1];exact (gEs.1 hy).1
    have hxs:as.drop (k+1)=xs:=by rw[←List.tail_drop,h2];rfl
    have hys:bs.drop (k+1)=ys:=by rw[←List.tail_drop,h3];rfl
    rw[List.range'_succ]
    simp only[Op.eqItems,Nat.mul_one]
    rw[zh (za5 hq hkx),zh (za5 hq hky),zh (zbT (ha.2 k x _ hx (Array.getElem?_eq_getElem hkx)) (hb.2 k y _ hy (Array.getElem?_eq_getElem hky)) hq e1)]
    cases b1 with
    |false=>rfl
    |true=>
     simp only[Bool.not_true,Bool.false_eq_true,if_false,Bool.true_and]
     exact zd3 hq ha hb n (k+1) b2 (by rw[hxs,hys];exact e2)
   .cases he
  .cases he
theorem zjG {op:BinOp} {neg:Bool} {t e:TypeId} {n q:Nat} {i:TypeInfo} {ox oy:Operand} {x y z:AV} {u v:Value} (hx:VR w M R x u) (hy:VR w M R y v) (hz:eqsV neg (List.replicate n q) x y=z) (hok:z≠.bad)
  (hop:op=if neg then .neq else .eql) (ht:P.underlying t=some (.array n e)) (hi:P.info? e=some i) (h1:P.cellsOf e=1) (hq:zgk P e=some q) (hm:P.eqGuardType P.depth t=false):
  zae P w M R z (do eqGuard op t ox oy u v;binOp op t u v):=by
 unfold eqsV at hz
 split at hz
 .rename_i a b
  cases hx with
  |agg R _ us hs hv=>
   cases hy with
   |agg R _ vs hs' hv'=>
    split at hz
    .rename_i r hr
     subst hz
     have he:=zd3 (P:=P) (w:=w) (d:=9998) hq ⟨hs,hv⟩ ⟨hs',hv'⟩ n 0 r (by simpa using hr)
     have he2:(Op.equalIn 10000 t (.agg us) (.agg vs)).run P w= .ok r w:=by
      rw[show (10000:Nat)=9999+1 from rfl,run_equalIn_array w 9999 us vs ht hi,h1,List.range_eq_range']
      exact he
     unfold zae
     rw[zh (run_eqGuard_agg w op t ox oy us vs hm)]
     subst hop
     cases neg with
     |false=>exact⟨_,by simp only[Bool.false_eq_true,if_false];rw[run_eql_struct,he2];rfl,.bool _ _⟩
     |true=>exact⟨_,by simp only[if_true];rw[run_neq_struct,he2];rfl,.bool _ _⟩
    .exact absurd hz.symm hok
 .exact absurd hz.symm hok
theorem zjH {t e:TypeId} {n sz:Nat} {zv:Array Value} {is:List Nat} {xs:List AV} {vs:List Value} {r:AV} (ht:P.underlying t=some (.array n e)) (hz:zcx P t=some (.agg zv)) (hs:szT P e=some sz)
  (hl:is.length=vs.length) (hv:VRs w M R xs vs) (hr:bldV (zv.toList.map ofV1) (is.map fun i=>(i* sz,sz)) xs=r) (hok:r≠.bad):zae P w M R r (Instr.build t (is.zip vs).toArray):=by
 have hc0:CR w M R (zv.toList.map ofV1) zv:=by
  refine⟨by simp,?_⟩
  intro j x u hj hu
  simp only[List.getElem?_map,Option.map_eq_some_iff]at hj
  obtain⟨y,hy,rfl⟩:=hj
  rw[Array.getElem?_toList,hu]at hy
  cases hy
  exact VR.ofV1 _ _ _ _
 obtain⟨c',z',e1,e2,e3⟩:=zjF (fun i=>some (i* sz,sz)) (is.map fun i=>(i* sz,sz)) is _ _ xs vs r hc0 hv (by simp) hl hr hok
 subst e2
 refine⟨.agg c',?_,.agg _ _ _ e3.1 e3.2⟩
 unfold Instr.build
 have hzr:=zap (P:=P) hz w
 have hsz:(sizeOf e).run P w= .ok sz w:=by
  unfold szT at hs
  cases hi:P.info? e with
  |none=>simp[hi]at hs
  |some i=>
   simp only[hi,Option.map_some,Option.some.injEq]at hs
   unfold sizeOf
   rw[zh (run_typeInfo (P:=P) (w:=w) hi)]
   simp[hs]
 rw[zh hzr,zh (run_underlying ht w)]
 simp only
 rw[zh hsz]
 show (match Instr.fill (fun i=>some (i* sz,sz)) zv (is.zip vs) with|some cells=>pure (Value.agg cells)|_=>stuck "build: a part of the wrong size":Sem Value).run P w=_
 rw[e1]
 rfl
end mem2
end Go.Proofs.YtgamobngbenehaaGreatDoor
