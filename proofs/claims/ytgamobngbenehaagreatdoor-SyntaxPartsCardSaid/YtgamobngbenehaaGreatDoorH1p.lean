/-
  A strings.Builder: what is written to it; the text of an expression (conditions: none).
-/
import Derived.Test.YtgamobngbenehaaGreatDoorAAp
import Derived.Test.YtgamobngbenehaaGreatDoorEvBp
namespace Go.Proofs.YtgamobngbenehaaGreatDoor
open Go Go.RowKit
set_option linter.unusedVariables false
set_option linter.unusedSimpArgs false
set_option maxRecDepth 10000
set_option maxHeartbeats 4000000
theorem zpD {f:FuncId} {fi:FI} {b:LC} (h:Φ f=some fi) (hb:fi.bod=some b) (fs args cs:List AV) (H:Heap):W.call (.clo f fs cs) args H=zeZ W b fi.np fi.res (fs++args++cs) H:=by
 rw[zb6];unfold zdB;simp only[h,runF,hb]
theorem zpC {f:FuncId} {g:List AV→Option AV} (h:Φ f=none) (hg:ext f=some g) {args:List AV} (ha:args.all AV.flat=true):W.pure f args=g args:=by
 rw[zdb];unfold zcL;rw[if_pos ha,h];simp only[hg]
theorem e53 (n:Int) (hn: -9223372036854775808≤n∧n≤9223372036854775807):W.pure 53 [I n]=some (.str (zcr n)):=by
 rw[zpC (by kernel_rfl) rfl (by simp)];simp only[zml];rw[if_pos hn]
theorem W_91 (vs:List AV) (H:Heap):W.call (.clo 91 [] []) vs H=zhA vs H:=by
 have h:Φ 91=none:=by kernel_rfl
 rw[zb6]
 simp[zdB,h,extM]
theorem W_38 (vs:List AV) (H:Heap):W.call (.clo 38 [] []) vs H=strM vs H:=by
 have h:Φ 38=none:=by kernel_rfl
 rw[zb6]
 simp[zdB,h,extM]
def zS (H H':Heap):Prop:=H.length≤H'.length∧∀(j v z:Nat) (sh:Bool) (es:List AV),H[j]?=some (.arr v z sh es)→H'[j]?=some (.arr v z sh es)
theorem zS.refl (H:Heap):zS H H:=⟨Nat.le_refl _,fun _ _ _ _ _ h=>h⟩
theorem zS.trans {A B C:Heap} (h:zS A B) (h':zS B C):zS A C:=⟨Nat.le_trans h.1 h'.1,fun j v z sh es hj=>h'.2 j v z sh es (h.2 j v z sh es hj)⟩
theorem zS.app (H K:Heap):zS H (H++K):=⟨by simp,fun j v z sh es hj=>by rw[gEa (gEs.1 hj).1];exact hj⟩
theorem zS.setN {H:Heap} {j:Nat} {B B0:Blk} (h:H[j]?=some B0) (hn:∀v z sh es,B0≠.arr v z sh es):zS H (H.set j B):=
 ⟨by simp,fun i v z sh es hi=>by
  have:j≠i:=fun e=>by subst e;rw[h]at hi;exact hn v z sh es (Option.some.inj hi)
  rw[gEn this];exact hi⟩
def Buf (H:Heap) (id:Nat) (buf:AV) (s:List UInt8):Prop:=
 (s=[]∧buf= .isl (some true) 0 [])∨(s≠[]∧∃b ver,buf= .bys b ver s.length∧b≠id∧H[b]?=some (.byt ver s))
def Bld (H:Heap) (id t:Nat) (rest:List AV) (s:List UInt8):Prop:=
 ∃c0 buf,H[id]?=some (.bx t (c0::buf::rest))∧(c0= .nilp∨c0= .bptr id 0)∧Buf H id buf s
theorem Buf.okO {H:Heap} {id:Nat} {buf:AV} {s:List UInt8} (h:Buf H id buf s):okO buf=some buf:=by
 rcases h with⟨_,rfl⟩|⟨_,b,ver,rfl,_⟩<;>rfl
theorem Buf.cells {H:Heap} {id:Nat} {buf:AV} {s:List UInt8} (h:Buf H id buf s):buf.cells=[buf]:=by
 rcases h with⟨_,rfl⟩|⟨_,b,ver,rfl,_⟩<;>rfl
theorem Buf.cell {H:Heap} {id:Nat} {buf:AV} {s:List UInt8} (h:Buf H id buf s):buf.cell=true:=by
 rcases h with⟨_,rfl⟩|⟨_,b,ver,rfl,_⟩<;>rfl
theorem Buf.len {H:Heap} {id:Nat} {buf:AV} {s:List UInt8} (h:Buf H id buf s):lenV false buf=I s.length:=by
 rcases h with⟨rfl,rfl⟩|⟨_,b,ver,rfl,_⟩<;>rfl
theorem Buf.set {H:Heap} {id:Nat} {buf:AV} {s:List UInt8} (h:Buf H id buf s) (B:Blk):Buf (H.set id B) id buf s:=by
 rcases h with h|⟨h1,b,ver,h2,h3,h4⟩
 .exact .inl h
 .exact .inr ⟨h1,b,ver,h2,h3,by rw[gEn (fun e=>h3 e.symm)];exact h4⟩
theorem Buf.app {H:Heap} {id:Nat} {buf:AV} {s:List UInt8} (h:Buf H id buf s) (K:Heap):Buf (H++K) id buf s:=by
 rcases h with h|⟨h1,b,ver,h2,h3,h4⟩
 .exact .inl h
 .exact .inr ⟨h1,b,ver,h2,h3,by rw[gEa (gEs.1 h4).1];exact h4⟩
theorem Bld.lt {H:Heap} {id t:Nat} {rest:List AV} {s:List UInt8} (h:Bld H id t rest s):id<H.length:=by
 obtain⟨c0,buf,h1,_⟩:=h
 exact (gEs.1 h1).1
theorem Bld.app {H:Heap} {id t:Nat} {rest:List AV} {s:List UInt8} (h:Bld H id t rest s) (K:Heap):Bld (H++K) id t rest s:=by
 obtain⟨c0,buf,h1,h2,h3⟩:=h
 exact⟨c0,buf,by rw[gEa (gEs.1 h1).1];exact h1,h2,h3.app K⟩
theorem zfG {H:Heap} {id t:Nat} {rest:List AV} {s:List UInt8} (h:Bld H id t rest s) (hin:zfH.contains (t,0,rest.length+2)=true):
  ∃H' buf,zhA [.bptr id 0] H=some (.tuple [],H')∧H'[id]?=some (.bx t (.bptr id 0::buf::rest))∧Buf H' id buf s∧zS H H':=by
 obtain⟨c0,buf,h1,h2,h3⟩:=h
 have hid:=(gEs.1 h1).1
 rcases h2 with rfl|rfl
 .refine⟨H.set id (.bx t (.bptr id 0::buf::rest)),buf,?_,gEt hid,h3.set _,zS.setN h1 (by simp)⟩
  simp only[zhA,h1,List.length_cons,hin,if_true,gEz,List.set_cons_zero]
 .refine⟨H,buf,?_,h1,h3,zS.refl _⟩
  simp only[zhA,h1,List.length_cons,hin,if_true,gEz,and_self]
theorem zhC {H:Heap} {id:Nat} {B:Blk} {buf:AV} {s:List UInt8} (h:Buf H id buf s) (hid:H[id]?=some B) (x:List UInt8) (hl:s.length+x.length≤zE):
  ∃H' buf',zel H buf x=some (buf',H')∧Buf H' id buf' (s++x)∧zS H H'∧H'[id]?=some B:=by
 have hlt:=(gEs.1 hid).1
 rcases h with⟨rfl,rfl⟩|⟨h1,b,ver,rfl,h3,h4⟩
 .cases x with
  |nil=>exact⟨H,_,rfl,.inl ⟨rfl,rfl⟩,zS.refl _,hid⟩
  |cons a r=>
   refine⟨H++[.byt 0 (a::r)],.bys H.length 0 (a::r).length,?_,.inr ⟨by simp,H.length,0,by simp,by omega,by simp⟩,zS.app _ _,by rw[gEa hlt];exact hid⟩
   simp only[zel]
   rw[if_pos (by simpa using hl)]
 .have hb:=(gEs.1 h4).1
  cases x with
  |nil=>
   refine⟨H,.bys b ver s.length,?_,.inr ⟨by simpa using h1,b,ver,by simp,h3,by simpa using h4⟩,zS.refl _,hid⟩
   simp only[zel,h4,and_self,if_true]
  |cons a r=>
   refine⟨H.set b (.byt (ver+1) (s++a::r)),.bys b (ver+1) (s.length+(a::r).length),?_,.inr ⟨by simp,b,ver+1,by simp,h3,gEt hb⟩,zS.setN h4 (by simp),by rw[gEn h3];exact hid⟩
   simp only[zel,h4,and_self,if_true]
   rw[if_pos hl]
section
attribute [local irreducible] okC okV
theorem zbA {H:Heap} {id t:Nat} {rest:List AV} {s:List UInt8} (h:Bld H id t rest s) (hin:zfH.contains (t,0,rest.length+2)=true) (x:List UInt8) (hl:s.length+x.length≤zE):
  ∃H',W.call (.clo 37 [] []) [.bptr id 0,.str x] H=some (.tuple [I x.length,.nili],H')∧Bld H' id t rest (s++x)∧zS H H':=by
 obtain⟨H1,buf,a1,a2,a3,a4⟩:=zfG h hin
 obtain⟨H2,buf',b1,b2,b3,b4⟩:=zhC a3 a2 x hl
 have hid:=(gEs.1 b4).1
 refine⟨H2.set id (.bx t (.bptr id 0::buf'::rest)),?_,⟨_,buf',gEt hid,.inr rfl,b2.set _⟩,(a4.trans b3).trans (zS.setN b4 (by simp))⟩
 rw[zL Φ37]
 simp[fi37,c37,zi,ze,zd,resV,rvVs,rvV,W_91,a1,a2,a3.okO,b1,b2.okO,b2.cells,b2.cell,b4, -getElem?_pos,gEz]
theorem zla (c:Int) (h:0≤c∧c<256):zaK [.int .u8 c]=some [UInt8.ofNat c.toNat]:=by
 simp only[zaK,zic]
 rw[if_pos h]
theorem zeX {R:Rec} {H:Heap} (x:AV) (nl:Option Bool) (c:Int) (h:0≤c∧c<256):exec R H .appB [x,.isl nl 1 [.int .u8 c]]=zel H x [UInt8.ofNat c.toNat]:=by
 show (match zaK [.int .u8 c]with|some l=>zel H x l|none=>none)=_
 rw[zla c h]
theorem zie {H:Heap} {id t:Nat} {rest:List AV} {s:List UInt8} (h:Bld H id t rest s) (hin:zfH.contains (t,0,rest.length+2)=true) (c:Int) (hc:0≤c∧c<256) (hl:s.length+1≤zE):
  ∃H',W.call (.clo 109 [] []) [.bptr id 0,.int .u8 c] H=some (.nili,H')∧Bld H' id t rest (s++[UInt8.ofNat c.toNat])∧zS H H':=by
 obtain⟨H1,buf,a1,a2,a3,a4⟩:=zfG h hin
 obtain⟨H2,buf',b1,b2,b3,b4⟩:=zhC a3 a2 [UInt8.ofNat c.toNat] hl
 have hid:=(gEs.1 b4).1
 refine⟨H2.set id (.bx t (.bptr id 0::buf'::rest)),?_,⟨_,buf',gEt hid,.inr rfl,b2.set _⟩,(a4.trans b3).trans (zS.setN b4 (by simp))⟩
 rw[zL Φ109]
 have ex1:=fun (x:AV)=>zeX (R:=W) (H:=H1) x (some false) c hc
 simp[zmJ,c109,zi,ze,zd,resV,rvVs,rvV,W_91,a1,a2,a3.okO,ex1,b1,b2.okO,b2.cells,b2.cell,b4, -getElem?_pos,gEz]
theorem zlb {H:Heap} {id t:Nat} {rest:List AV} {s:List UInt8} (h:Bld H id t rest s) (hin:zfH.contains (t,0,rest.length+2)=true) (hl:s.length≤1073741824):
  ∃H',W.call (.clo 38 [] []) [.bptr id 0] H=some (.str s,H'):=by
 obtain⟨c0,buf,h1,h2,h3⟩:=h
 rw[W_38]
 rcases h3 with⟨rfl,rfl⟩|⟨g1,b,ver,rfl,g3,g4⟩
 .refine⟨H,?_⟩
  simp only[strM,h1,List.length_cons,hin,if_true]
  rfl
 .refine⟨H.set b (.dead ver),?_⟩
  have hpos:0<s.length:=List.length_pos_iff.2 g1
  simp only[strM,h1,List.length_cons,hin,if_true,List.getElem?_cons_succ,gEz,g4]
  rw[if_pos ⟨trivial,trivial,hpos,hl⟩]
def zcw (e:Ex):Int:=if e.kind=3 then 6 else if e.kind=4 then zaW e.op else 7
theorem e303 (e:Ex) (h:e.kind=4→3≤e.op∧e.op≤15):W.pure 303 [e.av]=some (I (zcw e)):=by
 rw[zG Φ303 (by simp)]
 unfold zcw
 by_cases h3:e.kind=3
 .simp[ziS,c303,zi,ze,zd,resV,rvVs,rvV,h3, -getElem?_pos,gEz]
 by_cases h4:e.kind=4
 .have hf:=zdK (h h4)
  simp[ziS,c303,zi,ze,zd,resV,rvVs,rvV,h3,h4,e211,hf,opV, -getElem?_pos,gEz]
 .simp[ziS,c303,zi,ze,zd,resV,rvVs,rvV,h3,h4, -getElem?_pos,gEz]
def parT (lim:Int) (p:List UInt8×Int):List UInt8:=if p.2<lim then 40::p.1++[41] else p.1
def txN (kind op:Int) (name:List UInt8) (value:Int) (l:List (List UInt8×Int)):List UInt8:=
 if kind=1 then zcr value
 else if kind=2 then name
 else if kind=3 then (if op=1 then 45 else 33)::parT 6 (l.getD 0 default)
 else parT (if zaW op=3 then 4 else zaW op) (l.getD 0 default)++(32::(zdm op++[32]))++parT (zaW op+1) (l.getD 1 default)
mutual
def Ex.tx:Ex→List UInt8| .mk a b c d n z l=>txN a b c d (Ex.txs l)
def Ex.txs:List Ex→List (List UInt8×Int)| []=> []|x::r=>(x.tx,zcw x)::Ex.txs r
end
theorem Ex.tx_eq (e:Ex):e.tx=txN e.kind e.op e.name e.value (Ex.txs e.args.l):=by cases e;simp only[Ex.tx,Ex.args,Ex.kind,Ex.op,Ex.name,Ex.value]
theorem Ex.txs_at:∀(l:List Ex) (i:Nat) (x:Ex),l[i]?=some x→(Ex.txs l).getD i default=(x.tx,zcw x)
 | [],i,x,h=>by simp at h
 |y::r,0,x,h=>by
  simp only[gEz,Option.some.injEq]at h
  subst h;rfl
 |y::r,i+1,x,h=>by
  simp only[List.getElem?_cons_succ]at h
  have:=Ex.txs_at r i x h
  simpa[Ex.txs]using this
def Ex.okP (e:Ex):Prop:=∀x∈e.parts,zak x=0
theorem Ex.okP_arg {e x:Ex} (h:e.okP) (hx:x∈e.args.l):x.okP:=by
 intro y hy
 refine h y ?_
 rw[Ex.parts_eq]
 refine List.mem_cons_of_mem _ ?_
 generalize e.args.l=l at hx
 induction l with
 |nil=>cases hx
 |cons a r ih=>
  simp only[Ex.partss,List.mem_append]
  cases hx with
  |head=>exact .inl hy
  |tail _ hx=>exact .inr (ih hx)
theorem Ex.okP_self {e:Ex} (h:e.okP):zak e=0:=h e (by rw[Ex.parts_eq];simp)
end
end Go.Proofs.YtgamobngbenehaaGreatDoor
