/-
  The parts of an expression, given to a yield function that may only go on while something holds (conditions: none). expr.Names, and the check of an expression (conditions: none). expr.Names, whole, and the check of an expression (conditions: none). Plain structures for the program's, printed by a program of mine (conditions: none). Operations on objects, and the shapes of statements (conditions: none). Shapes of statements (conditions: none). Fields of statements (conditions: none). syntax.size (conditions: none). syntax.size and Size, whole (conditions: none). syntax.size and Size: what they say (conditions: none). syntax.deep (conditions: none). syntax.preorder: the visit of all statements (conditions: none). syntax.preorder, whole (conditions: none). The check of a statement (conditions: none). The check of a declaration (conditions: none). syntax.Check (conditions: none). syntax.Check, whole (conditions: none).
-/
import Derived.Test.YtgamobngbenehaaGreatDoorPrep
import Derived.Test.YtgamobngbenehaaGreatDoorAAp
import Derived.Test.YtgamobngbenehaaGreatDoorABp
section
namespace Go.Proofs.YtgamobngbenehaaGreatDoor
open Go Go.RowKit
set_option linter.unusedVariables false
set_option linter.unusedSimpArgs false
set_option maxRecDepth 10000
def runG {α σ ρ:Type} (G:σ→Prop) (step:α→σ→σ⊕ρ):List α→σ→Prop
 | [],_=>True
 |a::r,s=>G s∧match step a s with| .inl s'=>runG G step r s'| .inr _=>True
theorem zcz {α σ ρ:Type} (G:σ→Prop) (step:α→σ→σ⊕ρ) (l m:List α) (s:σ):
  runG G step (l++m) s↔runG G step l s∧(match runS step l s with| .inl s'=>runG G step m s'| .inr _=>True):=by
 induction l generalizing s with
 |nil=>simp[runG,runS]
 |cons a r ih=>
  simp only[List.cons_append,runG,runS]
  cases step a s with
  |inl s'=>simp only[ih s',and_assoc]
  |inr x=>simp
theorem zmc {σ ρ:Type} (e:Ex) (hs:e.size≤1000000000) (y:AV) (hy:okO y=some y) (P:σ→Heap→Prop) (Q:ρ→Heap→Prop) (G:σ→Prop) (step:Ex→σ→σ⊕ρ) (hP:∀s H B,P s H→P s (H++[B]))
  (ih:∀x∈e.args.l,∀s H,runG G step x.parts s→P s H→okV (W.call (.clo 220 [] []) [x.av,y] H) (zcs (α:=Ex) 5 P Q (runS step x.parts s) H)):
  ∀(r:List Ex) (k:Nat) (s:σ) (H:Heap),e.args.l.drop k=r→k≤e.args.l.length→runG G step (Ex.partss r) s→P s H→
  okC (W.loop [1,12,13,14] zhZ [(1,y),(12,Sl.av Ex.av 5 e.args),(13,I e.args.l.length),(14,I k)] H)
   (fun x F' H'=>zR 5 H H'∧match runS step (Ex.partss r) s with| .inl s'=>x= .exit 0∧P s' H'| .inr z=>x= .ret∧F'.get 4= .bool false∧Q z H'):=by
 have hll:=Ex.len_sizes e.args.l
 rw[Ex.size_eq]at hs
 intro r
 induction r with
 |nil=>
  intro k s H h1 h2 hg hp
  have hk:=zn h1 h2
  rw[zp]
  simp[zcm,zdu,zd,hk,Ex.partss,runS,hp,hy]
  exact zR.refl _ _
 |cons a r ihr=>
  intro k s H h1 h2 hg hp
  obtain⟨hlt,ha,hr⟩:=zF h1
  have hlt':(k:Int)<e.args.l.length:=by omega
  have hak:e.args.l[k]=a:=(gEs.1 ha).2
  have hw:=zaa (k:=k) (by omega)
  simp only[Ex.partss,zcz]at hg
  obtain⟨hg1,hg2⟩:=hg
  have e1:=ih a (zH h1) s (H++[.arr 0 5 false [a.av]]) hg1 (hP _ _ _ hp)
  obtain⟨v,H1,c1,c2,c3⟩:=zz.1 e1
  rw[zp]
  simp only[Ex.partss,zbF]
  cases hrun:runS step a.parts s with
  |inr z=>
   rw[hrun]at c3
   obtain⟨rfl,c4⟩:=c3
   simp[zcm,zdu,zd,hlt,hak,c1,hy]
   exact⟨(zR.append _ _ _).trans c2,c4⟩
  |inl s'=>
   rw[hrun]at c3 hg2
   obtain⟨rfl,c4⟩:=c3
   have hJ:=ihr (k+1) s' H1 hr (by omega) hg2 c4
   simp only[Int.natCast_add,Int.cast_ofNat_Int]at hJ
   obtain⟨x,F',H',g1,g2,g3⟩:=zr.1 hJ
   simp[zcm,zdu,zd,hlt,hak,c1,hy,hw,g1]
   refine⟨((zR.append _ _ _).trans c2).trans g2,?_⟩
   simpa using g3
theorem zji {σ ρ:Type} (y:AV) (hy:okO y=some y) (P:σ→Heap→Prop) (Q:ρ→Heap→Prop) (G:σ→Prop) (step:Ex→σ→σ⊕ρ) (hP:∀s H B,P s H→P s (H++[B]))
  (hstep:∀x s H,G s→P s H→okV (W.call y [x.av] H) (zcs (α:=Ex) 5 P Q (step x s) H)):
  ∀(e:Ex),e.size≤1000000000→∀(s:σ) (H:Heap),runG G step e.parts s→P s H→okV (W.call (.clo 220 [] []) [e.av,y] H) (zcs (α:=Ex) 5 P Q (runS step e.parts s) H):=by
 refine Ex.ind (fun e ih=>?_)
 intro hs s H hg hp
 rw[zL Φ220]
 rw[Ex.parts_eq]at hg⊢
 simp only[runS]
 simp only[runG]at hg
 obtain⟨hg1,hg2⟩:=hg
 have e1:=hstep e s (H++[.arr 0 5 false [e.av]]) hg1 (hP _ _ _ hp)
 obtain⟨v,H1,c1,c2,c3⟩:=zz.1 e1
 have hbox:H1[H.length]?=some (.arr 0 5 false [e.av]):=c2.2 H.length [e.av] (by simp)
 cases hst:step e s with
 |inr z=>
  rw[hst]at c3
  obtain⟨rfl,c4⟩:=c3
  simp[zfs,c220,zi,ze,zd,resV,rvVs,rvV,c1,hy]
  exact⟨(zR.append _ _ _).trans c2,rfl,c4⟩
 |inl s'=>
  rw[hst]at c3 hg2
  obtain⟨rfl,c4⟩:=c3
  have hL:=zmc e hs y hy P Q G step hP (fun x hx s H hg hp=>ih x hx (by have:=Ex.mem_size hx;rw[Ex.size_eq]at hs;omega) s H hg hp) e.args.l 0 s' H1 rfl (by omega) hg2 c4
  simp only[Int.natCast_zero]at hL
  obtain⟨x,F',H',g1,g2,g3⟩:=zr.1 hL
  have hk:=((zR.append 5 H (.arr 0 5 false [e.av])).trans c2).trans g2
  cases hrun:runS step (Ex.partss e.args.l) s' with
  |inl s''=>
   rw[hrun]at g3
   obtain⟨rfl,g4⟩:=g3
   simp[zfs,c220,zi,ze,zd,resV,rvVs,rvV,c1,hy,hbox,g1,zg, -getElem?_pos,gEz]
   refine⟨hk,?_⟩
   rw[hrun]
   exact⟨rfl,g4⟩
  |inr z=>
   rw[hrun]at g3
   obtain⟨rfl,g4,g5⟩:=g3
   simp[zfs,c220,zi,ze,zd,resV,rvVs,rvV,c1,hy,hbox,g1,g4,zg, -getElem?_pos,gEz]
   refine⟨hk,?_⟩
   rw[hrun]
   exact⟨rfl,g5⟩
theorem zjN {σ ρ:Type} (e:Ex) (hs:e.size≤1000000000) (b:Nat) (y:AV) (hy:okO y=some y) (P:σ→Heap→Prop) (Q:ρ→Heap→Prop) (G:σ→Prop) (step:Ex→σ→σ⊕ρ) (hP:∀s H B,P s H→P s (H++[B]))
  (hstep:∀x s H,G s→P s H→okV (W.call y [x.av] H) (zcs (α:=Ex) 5 P Q (step x s) H)) (s:σ) (H:Heap) (hb:H[b]?=some (.arr 0 5 false [e.av])) (hg:runG G step e.parts s) (hp:P s H):
  okV (W.call (.clo 219 [] [.optr b 0 0 0]) [y] H) (fun v H'=>v= .tuple []∧zR 5 H H'∧match runS step e.parts s with| .inl s'=>P s' H'| .inr z=>Q z H'):=by
 rw[zL Φ219]
 obtain⟨v,H',c1,c2,c3⟩:=zz.1 (zji y hy P Q G step hP hstep e hs s H hg hp)
 have hv:okO v=some v:=by
  cases hrun:runS step e.parts s<;>rw[hrun]at c3<;>rw[c3.1]<;>rfl
 simp[zkF,c219,zi,ze,zd,resV,rvVs,rvV,hb,hy,c1,hv,zg, -getElem?_pos,gEz]
 refine⟨c2,?_⟩
 cases hrun:runS step e.parts s with
 |inl s'=>rw[hrun]at c3;exact c3.2
 |inr z=>rw[hrun]at c3;exact c3.2
def OwnS (H:Heap) (v:AV) (l:List (List UInt8)) (n:Nat):Prop:=
 (v= .isl (some true) 0 []∧l=[])∨∃id ver,n≤id∧v= .osl id ver 0 l.length∧l≠[]∧H[id]?=some (.arr ver 1 false (l.map .str))
theorem OwnS.okO {H:Heap} {v:AV} {l:List (List UInt8)} {n:Nat} (h:OwnS H v l n):okO v=some v:=by
 rcases h with⟨rfl,_⟩|⟨id,ver,_,rfl,_⟩<;>rfl
theorem OwnS.cells {H:Heap} {v:AV} {l:List (List UInt8)} {n:Nat} (h:OwnS H v l n):v.cells=[v]:=by
 rcases h with⟨rfl,_⟩|⟨id,ver,_,rfl,_⟩<;>rfl
theorem OwnS.cell {H:Heap} {v:AV} {l:List (List UInt8)} {n:Nat} (h:OwnS H v l n):v.cell=true:=by
 rcases h with⟨rfl,_⟩|⟨id,ver,_,rfl,_⟩<;>rfl
theorem OwnS.kept {H H':Heap} {v:AV} {l:List (List UInt8)} {n:Nat} (h:OwnS H v l n) (hk:∀(j:Nat) (B:Blk),n≤j→H[j]?=some B→H'[j]?=some B):OwnS H' v l n:=by
 rcases h with⟨rfl,h2⟩|⟨id,ver,h1,h2,h3,h4⟩
 .exact .inl ⟨rfl,h2⟩
 .exact .inr ⟨id,ver,h1,h2,h3,hk _ _ h1 h4⟩
theorem OwnS.app {H:Heap} {v:AV} {l:List (List UInt8)} {n:Nat} (h:OwnS H v l n) (hn:n≤H.length) (s:List UInt8) (hr:l.length<zE):
  ∃v' H',ex H (.app 1) [v,.isl (some false) 1 [.str s]]=some (v',H')∧OwnS H' v' (l++[s]) n∧zR 5 H H'∧∀j,j<n→H'[j]?=H[j]?:=by
 have e0:ex H (.app 1) [v,.isl (some false) 1 [.str s]]=zby (truncH H v) 1 v [.str s]:=by simp[ex]
 rw[e0]
 rcases h with⟨rfl,rfl⟩|⟨id,ver,h1,rfl,h3,h4⟩
 .refine⟨.osl H.length 0 0 1,H++[.arr 0 1 false [.str s]],?_,.inr ⟨H.length,0,hn,rfl,by simp,by simp⟩,zR.append _ _ _,fun j hj=>by rw[gEa (by omega)]⟩
  simp[zby,truncH,zE]
 .have hid:=(gEs.1 h4).1
  have ht:truncH H (.osl id ver 0 l.length)=H:=by
   simp[truncH,h4]
  rw[ht]
  refine⟨.osl id (ver+1) 0 (l.length+1),H.set id (.arr (ver+1) 1 false (l.map .str++[.str s])),?_,.inr ⟨id,ver+1,h1,by simp,by simp,?_⟩,zR.set h4 (by intro es e;cases e),fun j hj=>by rw[gEn (by omega)]⟩
  .simp only[zby,h4]
   rw[if_pos (by simp),if_pos (by simp;omega)]
   simp
  .rw[gEt hid];simp
end Go.Proofs.YtgamobngbenehaaGreatDoor
end
section
namespace Go.Proofs.YtgamobngbenehaaGreatDoor
open Go Go.RowKit
set_option linter.unusedVariables false
set_option linter.unusedSimpArgs false
set_option maxRecDepth 10000
theorem zh2 (x:List UInt8):∀l,(insS x l).length=l.length+1
 | []=>rfl
 |y::r=>by
  simp only[insS]
  split
  .rfl
  .simp[zh2 x r]
theorem zb1:∀l,(zcp l).length=l.length
 | []=>rfl
 |x::r=>by simp only[zcp,zh2,zb1 r,List.length_cons]
theorem zh1 (x s:List UInt8):∀l,s∈insS x l↔s=x∨s∈l
 | []=>by simp[insS]
 |y::r=>by
  simp only[insS]
  split
  .simp
  .simp only[List.mem_cons,zh1 x s r]
   constructor
   .rintro (h|h|h)<;>simp[h]
   .rintro (h|h|h)<;>simp[h]
theorem zfT (s:List UInt8):∀l,s∈zcp l↔s∈l
 | []=>by simp[zcp]
 |x::r=>by simp only[zcp,zh1,zfT s r,List.mem_cons]
theorem zgK (s:List UInt8):∀l,s∈zab l↔s∈l
 | []=>by simp[zab]
 | [x]=>by simp[zab]
 |x::y::r=>by
  have ih:=zgK s (y::r)
  simp only[zab]
  split
  .rename_i h;subst h;rw[ih];simp
  .simp only[List.mem_cons,ih]
theorem zc0:∀l,(zab l).length≤l.length
 | []=>by simp[zab]
 | [x]=>by simp[zab]
 |x::y::r=>by
  have ih:=zc0 (y::r)
  simp only[zab]
  split
  .simp at *;omega
  .simp at *;omega
theorem zce:∀l:List (List UInt8),zcF (l.map .str)=some l
 | []=>rfl
 |x::r=>by simp only[List.map_cons,zcF,zce r,Option.map_some]
theorem ztf (vs:List AV) (H:Heap):W.call (.clo 273 [] []) vs H=zjo vs H:=by
 have h:Φ 273=none:=by kernel_rfl
 rw[zb6]
 simp[zdB,h,extM]
theorem zte (vs:List AV) (H:Heap):W.call (.clo 274 [] []) vs H=zk5 vs H:=by
 have h:Φ 274=none:=by kernel_rfl
 rw[zb6]
 simp[zdB,h,extM]
theorem zlG {H:Heap} {v:AV} {l:List (List UInt8)} {n:Nat} (h:OwnS H v l n) (hl:l.length≤1048576):
  ∃H',W.call (.clo 273 [] []) [v] H=some (.tuple [],H')∧OwnS H' v (zcp l) n∧∀j,j<n→H'[j]?=H[j]?:=by
 rw[ztf]
 rcases h with⟨rfl,rfl⟩|⟨id,ver,h1,rfl,h3,h4⟩
 .exact⟨H,rfl,.inl ⟨rfl,rfl⟩,fun _ _=>rfl⟩
 .have hid:=(gEs.1 h4).1
  have hpos:0<l.length:=List.length_pos_iff.2 h3
  refine⟨H.set id (.arr ver 1 false ((zcp l).map .str)),?_,.inr ⟨id,ver,h1,by rw[zb1],?_,gEt hid⟩,fun j hj=>by rw[gEn (by omega)]⟩
  .simp[zjo,h4,zce,hpos,hl]
  .intro e;have:=zb1 l;rw[e]at this;simp at this;omega
theorem zmT {H:Heap} {v:AV} {l:List (List UInt8)} {n:Nat} (h:OwnS H v l n) (hl:l.length≤1048576):
  ∃v' H' x,W.call (.clo 274 [] []) [v] H=some (v',H')∧okO v'=some v'∧frz H' 8 v'=some (Sl.av AV.str 1 x)∧x.l=zab l:=by
 rw[zte]
 rcases h with⟨rfl,rfl⟩|⟨id,ver,h1,rfl,h3,h4⟩
 .exact⟨_,H,zaV,rfl,rfl,rfl,rfl⟩
 .have hid:=(gEs.1 h4).1
  have hpos:0<l.length:=List.length_pos_iff.2 h3
  refine⟨.osl id ver 0 (zab l).length,H.set id (.arr ver 1 false ((zab l++List.replicate (l.length - (zab l).length) []).map .str)),ofL 1 (zab l),?_,rfl,?_,rfl⟩
  .simp[zk5,h4,zce,hpos,hl]
  .have hg:Grow (H.set id (.arr ver 1 false ((zab l++List.replicate (l.length - (zab l).length) []).map .str))) 1 (some id) (.osl id ver 0 (zab l).length) ((zab l).map .str):=
    ⟨ver,(List.replicate (l.length - (zab l).length) []).map .str,by simp,by rw[gEt hid,List.map_append]⟩
   rw[hg.frz (n:=7) (by simp)]
   simp[zqA]
def zfu (e:Ex):List (List UInt8):=e.parts.foldl (fun s x=>if x.kind=2 then s++[x.name] else s) []
theorem zhO {α σ ρ:Type} (f:α→σ→σ):∀(l:List α) (s:σ),runS (ρ:=ρ) (fun x s=> .inl (f x s)) l s= .inl (l.foldl (fun s x=>f x s) s)
 | [],s=>rfl
 |a::r,s=>by simp only[runS,List.foldl_cons];exact zhO f r _
def K216 (st:LoopState) (pe:Option LX):Blk:= .loop st pe [(2,.isl (some true) 0 []),(3,.optr 1 0 0 0)] [10] zc9 zc8
def P216 (s:List (List UInt8)) (H:Heap):Prop:=H[3]?=some (K216 .ready none)∧∃v,H[1]?=some (.arr 0 1 false [v])∧OwnS H v s 4
def zcG (x:Ex) (s:List (List UInt8)):List (List UInt8):=if x.kind=2 then s++[x.name] else s
theorem zg6 {a v:AV} (ha:a.cells=[a]) (hv:v.cells=[v]) (hc:v.cell=true):zo [a] 0 0 v=some [v]:=by
 cases a with
 |agg cs=>
  have h1:cs=[AV.agg cs]:=ha
  have h2:=congrArg (fun l:List AV=>SizeOf.sizeOf l) h1
  simp at h2
  omega
 |_=>simp[zo,ha,hv,hc]
theorem zlR (x:Ex) (s:List (List UInt8)) (H:Heap) (hg:s.length<1000000) (hp:P216 s H):
  okV (W.call (.yld 3) [x.av] H) (zcs (α:=Ex) 5 P216 (fun (_:Unit) _=>False) (.inl (zcG x s)) H):=by
 obtain⟨h1,v,h2,h3⟩:=hp
 have hl:=(gEs.1 h1).1
 rw[zpB,zca h1 rfl]
 have a1:(H++[Blk.arr 0 5 false [x.av]])[3]?=some (K216 .ready none):=zw h1 _
 have a2:(H++[Blk.arr 0 5 false [x.av]])[H.length]?=some (.arr 0 5 false [x.av]):=zg _ _
 have a3:(H++[Blk.arr 0 5 false [x.av]])[1]?=some (.arr 0 1 false [v]):=zw h2 _
 have b1:∀B,((H++[Blk.arr 0 5 false [x.av]]).set 3 B)[3]?=some B:=fun B=>gEt (by simp;omega)
 have b2:∀B,((H++[Blk.arr 0 5 false [x.av]]).set 3 B)[H.length]?=some (.arr 0 5 false [x.av]):=fun B=>by rw[gEn (by omega)];exact a2
 have b3:∀B,((H++[Blk.arr 0 5 false [x.av]]).set 3 B)[1]?=some (.arr 0 1 false [v]):=fun B=>by rw[gEn (by omega)];exact a3
 have o0:∀B,OwnS ((H++[Blk.arr 0 5 false [x.av]]).set 3 B) v s 4:=fun B=>h3.kept (fun j C hj hC=>by rw[gEn (by omega)];exact zw hC _)
 have k0:zR 5 H (H++[Blk.arr 0 5 false [x.av]]):=zR.append _ _ _
 have k1:∀B,zR 5 H ((H++[Blk.arr 0 5 false [x.av]]).set 3 B):=fun B=>k0.trans (zR.set a1 (by intro es e;cases e))
 have hlen:∀B,4≤((H++[Blk.arr 0 5 false [x.av]]).set 3 B).length:=fun B=>by simp;omega
 simp only[K216]at *
 by_cases hk:x.kind=2
 .obtain⟨v',H',e1,e2,e3,e4⟩:=(o0 (.loop .busy none [(2,.isl (some true) 0 []),(3,.optr 1 0 0 0)] [10] zc9 zc8)).app (hlen _) x.name (by simp[zE];omega)
  have g1:H'[1]?=some (.arr 0 1 false [v]):=by rw[e4 1 (by omega)];exact b3 _
  have g3:=e4 3 (by omega)
  rw[b1]at g3
  have hl1:=(gEs.1 g1).1
  have hl3:=(gEs.1 g3).1
  have s1:=zg6 h3.cells e2.cells e2.cell
  have g4:∀B,(H'.set 1 B)[3]?=some (.loop .busy none [(2,.isl (some true) 0 []),(3,.optr 1 0 0 0)] [10] zc9 zc8):=fun B=>by rw[gEn (by omega)];exact g3
  simp[zbt,zgH,zdH,zgF,zdF,zd,a1,a2,b1,b2,b3,hk,h3.okO,h3.cells,e1,e2.okO,e2.cells,e2.cell,g1,g3,g4,s1,zcG,zg, -getElem?_pos,gEz, -List.append_assoc]
  refine⟨((k1 _).trans e3).trans ((zR.set g1 (by intro es e;cases e)).trans (zR.set (g4 _) (by intro es e;cases e))),rfl,gEt (by simp;omega),v',?_,?_⟩
  .rw[gEn (by omega),gEt hl1]
  .exact e2.kept (fun j C hj hC=>by rw[gEn (by omega),gEn (by omega)];exact hC)
 .simp[zbt,zgH,zdH,zgF,zdF,zd,a1,a2,b1,b2,b3,hk,zcG,zg, -getElem?_pos,gEz, -List.append_assoc]
  refine⟨k1 _,rfl,gEt (by simp;omega),v,?_,?_⟩
  .rw[gEn (by omega)];exact a3
  .exact h3.kept (fun j C hj hC=>by rw[gEn (by omega)];exact zw hC _)
end Go.Proofs.YtgamobngbenehaaGreatDoor
end
section
namespace Go.Proofs.YtgamobngbenehaaGreatDoor
open Go Go.RowKit
set_option linter.unusedVariables false
set_option linter.unusedSimpArgs false
set_option maxRecDepth 10000
theorem zd1:∀(l:List Ex) (s:List (List UInt8)),(l.foldl (fun s x=>zcG x s) s).length≤s.length+l.length
 | [],s=>by simp
 |x::r,s=>by
  have:=zd1 r (zcG x s)
  have h:(zcG x s).length≤s.length+1:=by unfold zcG;split<;>simp
  simp only[List.foldl_cons,List.length_cons];omega
theorem zhQ:∀(l:List Ex) (s:List (List UInt8)),s.length+l.length<1000000→runG (ρ:=Unit) (fun s:List (List UInt8)=>s.length<1000000) (fun x s=> .inl (zcG x s)) l s
 | [],s,h=>trivial
 |x::r,s,h=>by
  have h1:(zcG x s).length≤s.length+1:=by unfold zcG;split<;>simp
  simp only[List.length_cons]at h
  exact⟨by omega,zhQ r _ (by omega)⟩
theorem zdR (e:Ex):zfu e=e.parts.foldl (fun s x=>zcG x s) []:=rfl
mutual
theorem Ex.parts_len:∀e:Ex,e.parts.length=e.size
 | .mk a b c d n z l=>by simp only[Ex.parts,Ex.size,List.length_cons,Ex.partss_len l];omega
theorem Ex.partss_len:∀l:List Ex,(Ex.partss l).length=Ex.sizes l
 | []=>rfl
 |x::r=>by simp only[Ex.partss,Ex.sizes,List.length_append,Ex.parts_len x,Ex.partss_len r]
end
theorem zcU {e:Ex} (h:zaf e=0):e.size≤100:=by
 unfold zaf at h
 split at h
 .cases h
 .omega
theorem e216 (e:Ex) (hz:zaf e=0):∃x:Sl (List UInt8),W.pure 225 [e.av]=some (Sl.av AV.str 1 x)∧x.l=zab (zcp (zfu e)):=by
 have hs:=zcU hz
 have c1:=e153 e
 rw[hz]at c1
 have p1:=e183 e [.arr 0 5 false [e.av],.arr 0 1 false [.isl (some true) 0 []]]
 have hd:=zjN e (by omega) 2 (.yld 3) rfl P216 (fun (_:Unit) _=>False) (fun s=>s.length<1000000) (fun x s=> .inl (zcG x s))
  (by rintro s H B ⟨h1,v,h2,h3⟩;exact⟨zw h1 B,v,zw h2 B,h3.kept (fun j C _ hC=>zw hC B)⟩)
  (fun x s H hg hp=>zlR x s H hg hp) [] [.arr 0 5 false [e.av],.arr 0 1 false [.isl (some true) 0 []],.arr 0 5 false [e.av],K216 .ready none] rfl
  (zhQ _ _ (by rw[Ex.parts_len];simp;omega)) ⟨rfl,_,rfl,.inl ⟨rfl,rfl⟩⟩
 obtain⟨v,H',d1,rfl,d2,d3⟩:=zz.1 hd
 rw[zhO,←zdR]at d3
 obtain⟨d3,w,d4,d5⟩:=d3
 have hlen:(zfu e).length≤100:=by
  have:=zd1 e.parts []
  rw[Ex.parts_len]at this
  simp at this
  rw[zdR];omega
 have hl3:=(gEs.1 d3).1
 have o1:∀B,OwnS (H'.set 3 B) w (zfu e) 4:=fun B=>d5.kept (fun j C hj hC=>by rw[gEn (by omega)];exact hC)
 have g1:∀B,(H'.set 3 B)[1]?=some (.arr 0 1 false [w]):=fun B=>by rw[gEn (by omega)];exact d4
 simp only[K216]at *
 obtain⟨H2,f1,f2,f3⟩:=zlG (o1 (.loop .exhausted none [(2,.isl (some true) 0 []),(3,.optr 1 0 0 0)] [10] zc9 zc8)) (by omega)
 obtain⟨v3,H3,x,k1,k2,k3,k4⟩:=zmT f2 (by rw[zb1];omega)
 have g2:H2[1]?=some (.arr 0 1 false [w]):=by rw[f3 1 (by omega)];exact g1 _
 refine⟨x,?_,k4⟩
 rw[zG Φ225 (by simp)]
 simp[zmv,c225,zi,ze,zd,resV,rvVs,rvV,c1,p1,d1,d3,zd4,g1,d5.okO,d5.cells,f1,g2,k1,k2,k3, -getElem?_pos,gEz]
def exI (e:Ex):Int:=if zaf e=0 then (if (zfu e).any (fun s=>decide (s∈zaH))=true then 5 else 0) else zaf e
theorem zpu (s:List UInt8) (hn:isNm s=true) (H:Heap):W.call (.clo 147 [] []) [.str s] H=some (.bool (decide (s∈zaH)),H):=by
 rw[zL Φ147]
 have h32:=zgo hn
 have hne:s≠[]:=by rintro rfl;simp[isNm]at hn
 have hl:s.length≤30:=by simp[isNm]at hn;exact hn.2
 have c1:=e164 s [32] (by omega)
 have s1:Lib.contains s [32]=false:=by
  have:=zbQ [] s [] h32
  simpa[zcd]using this
 rw[s1]at c1
 have c2:=e164 (32::zgl zaH) (32::(s++[32])) (by rw[zfo];simp)
 rw[zcY s h32 zaH zkm,zfo]at c2
 have l1:1+s.length≤9223372036854775807:=by omega
 have l2:s.length+1+1≤9223372036854775807:=by omega
 have l3:1+s.length+1≤9223372036854775807:=by omega
 have l4:s.length+1≤9223372036854775807:=by omega
 by_cases hm:s∈zaH<;>simp[zkK,c147,zi,ze,zd,resV,rvVs,rvV,zV,hne,c1,c2,hm,l1,l2,l3,l4]
theorem zkT (e:Ex) (s:List UInt8):s∈zfu e↔∃x∈e.parts,x.kind=2∧x.name=s:=by
 have key:∀(l:List Ex) (a:List (List UInt8)),s∈l.foldl (fun s x=>zcG x s) a↔s∈a∨∃x∈l,x.kind=2∧x.name=s:=by
  intro l
  induction l with
  |nil=>intro a;simp
  |cons x r ih=>
   intro a
   simp only[List.foldl_cons,ih,List.mem_cons,exists_eq_or_imp]
   unfold zcG
   by_cases h:x.kind=2
   .simp only[h,if_true,List.mem_append,List.mem_singleton,true_and,or_assoc,eq_comm]
   .simp only[h,if_false,false_and,false_or]
 rw[zdR,key]
 simp
theorem zmN {e:Ex} (hz:zaf e=0) {s:List UInt8} (h:s∈zfu e):isNm s=true:=by
 obtain⟨x,h1,h2,rfl⟩:=(zkT e s).1 h
 have h3:zak x=0:=by
  unfold zaf at hz
  split at hz
  .cases hz
  .split at hz
   .cases hz
   .exact zbO.1 hz x h1
 unfold zak at h3
 cases h4:isNm x.name with
 |true=>rfl
 |false=>
  exfalso
  have h5:x.kind=2∧isNm x.name=false:=⟨h2,h4⟩
  split at h3
  .omega
  .split at h3
   .omega
   .split at h3
    .omega
    .omega
theorem zpz {α:Type} {p:α→Bool} {l m:List α} (h:∀a,a∈l↔a∈m):l.any p=m.any p:=by
 rw[Bool.eq_iff_iff]
 simp only[List.any_eq_true,h]
theorem e190 (e:Ex):W.pure 182 [e.av]=some (I (exI e)):=by
 rw[zG Φ182 (by simp)]
 have c1:=e153 e
 unfold exI
 by_cases hz:zaf e=0
 .rw[if_pos hz]
  rw[hz]at c1
  obtain⟨x,n1,n2⟩:=e216 e hz
  have hmem:∀s,s∈x.l↔s∈zfu e:=fun s=>by rw[n2,zgK,zfT]
  have hlen:x.l.length≤100:=by
   rw[n2]
   refine Nat.le_trans (zc0 _) ?_
   rw[zb1]
   have:=zd1 e.parts []
   rw[Ex.parts_len]at this
   have h2:=zcU hz
   simp at this
   rw[zdR];omega
  obtain⟨v,H',d1,rfl,d2⟩:=zz.1 (zm7 x (by omega) (.clo 147 [] []) rfl (fun s=>decide (s∈zaH)) [.arr 0 5 false [e.av]] (fun s hs H _=>by
   rw[zpu s (zmN hz ((hmem s).1 hs))];exact⟨rfl,Kept.refl _ _⟩))
  rw[zpz hmem]at d1
  generalize (zfu e).any (fun s=>decide (s∈zaH))=q at *
  cases q with
  |true=>simp[ziT,c182,zi,ze,zd,resV,rvVs,rvV,c1,n1,d1, -getElem?_pos,gEz]
  |false=>
   rw[if_neg (by simp)]
   simp[ziT,c182,zi,ze,zd,resV,rvVs,rvV,c1,n1,d1, -getElem?_pos,gEz]
 .rw[if_neg hz]
  simp[ziT,c182,zi,ze,zd,resV,rvVs,rvV,c1,hz, -getElem?_pos,gEz]
end Go.Proofs.YtgamobngbenehaaGreatDoor
end
section
namespace Go.Proofs.YtgamobngbenehaaGreatDoor
open Go Go.RowKit
set_option linter.unusedVariables false
set_option linter.unusedSimpArgs false
structure Op4 where
 op:Int
 word:(List UInt8)
 exprs:Int
 names:Int
 deriving DecidableEq,Inhabited
def Op4.av (s:Op4):AV:= .agg [I s.op,.str s.word,I s.exprs,I s.names]
section
variable {s t:Op4} {H:Heap} {es:List AV} {k:Nat}
@[simp] theorem Op4_okO:okO s.av=some s.av:=rfl
@[simp] theorem Op4_ok:s.av.ok=true:=rfl
@[simp] theorem Op4_flat:s.av.flat=true:=rfl
@[simp] theorem Op4_len:s.av.cells.length=4:=rfl
@[simp] theorem Op4_cell:s.av.cells.all AV.cell=true:=rfl
@[simp] theorem Op4_still:s.av.cells.all AV.still=true:=rfl
@[simp] theorem Op4_frz (n:Nat):frz H (n+2) s.av=some s.av:=rfl
@[simp] theorem Op4_frz0 (n:Nat):frzs (frz H (n+1)) s.av.cells=some s.av.cells:=rfl
@[simp] theorem Op4_whole:zk true 4 s.av.cells=s.av:=rfl
@[simp] theorem Op4_fold:AV.agg s.av.cells=s.av:=rfl
theorem Op4_mk (op:Int) (word:(List UInt8)) (exprs:Int) (names:Int):(.agg [I op,.str word,I exprs,I names]:AV)=(Op4.mk op word exprs names).av:=rfl
@[simp] theorem Op4_ld_op:zk false 1 s.av.cells=I s.op:=rfl
@[simp] theorem Op4_fv_op:zaE false 1 0 s.av=I s.op:=rfl
@[simp] theorem Op4_st_op (x:Int):zo [s.av] 0 0 (I x)=some [({s with op:=x}:Op4).av]:=rfl
@[simp] theorem Op4_ld_word:zk false 1 s.av.cells.tail= .str s.word:=rfl
@[simp] theorem Op4_fv_word:zaE false 1 1 s.av= .str s.word:=rfl
@[simp] theorem Op4_st_word (x:(List UInt8)):zo [s.av] 0 1 (.str x)=some [({s with word:=x}:Op4).av]:=rfl
@[simp] theorem Op4_ld_exprs:zk false 1 (s.av.cells.drop 2)=I s.exprs:=rfl
@[simp] theorem Op4_fv_exprs:zaE false 1 2 s.av=I s.exprs:=rfl
@[simp] theorem Op4_st_exprs (x:Int):zo [s.av] 0 2 (I x)=some [({s with exprs:=x}:Op4).av]:=rfl
@[simp] theorem Op4_ld_names:zk false 1 (s.av.cells.drop 3)=I s.names:=rfl
@[simp] theorem Op4_fv_names:zaE false 1 3 s.av=I s.names:=rfl
@[simp] theorem Op4_st_names (x:Int):zo [s.av] 0 3 (I x)=some [({s with names:=x}:Op4).av]:=rfl
@[simp] theorem Op4_st_all (x:Op4):zo [s.av] 0 0 x.av=some [x.av]:=rfl
@[simp] theorem Op4_st_new (x:Op4):zo [.agg [.int .i64 0,.str [],.int .i64 0,.int .i64 0]] 0 0 x.av=some [x.av]:=rfl
def Op4.wf (s:Op4):Prop:=(Lit.int .i64 s.op).wf=true∧s.word.length≤maxLen∧(Lit.int .i64 s.exprs).wf=true∧(Lit.int .i64 s.names).wf=true∧True
end
structure Shp where
 name:Int
 n0:Int
 n1:Int
 e0:Int
 e1:Int
 body:Bool
 others:Bool
 cases:Bool
 op:Bool
 deriving DecidableEq,Inhabited
def Shp.av (s:Shp):AV:= .agg [I s.name,I s.n0,I s.n1,I s.e0,I s.e1,.bool s.body,.bool s.others,.bool s.cases,.bool s.op]
section
variable {s t:Shp} {H:Heap} {es:List AV} {k:Nat}
@[simp] theorem Shp_okO:okO s.av=some s.av:=rfl
@[simp] theorem Shp_ok:s.av.ok=true:=rfl
@[simp] theorem Shp_flat:s.av.flat=true:=rfl
@[simp] theorem Shp_len:s.av.cells.length=9:=rfl
@[simp] theorem Shp_cell:s.av.cells.all AV.cell=true:=rfl
@[simp] theorem Shp_still:s.av.cells.all AV.still=true:=rfl
@[simp] theorem Shp_frz (n:Nat):frz H (n+2) s.av=some s.av:=rfl
@[simp] theorem Shp_frz0 (n:Nat):frzs (frz H (n+1)) s.av.cells=some s.av.cells:=rfl
@[simp] theorem Shp_whole:zk true 9 s.av.cells=s.av:=rfl
@[simp] theorem Shp_fold:AV.agg s.av.cells=s.av:=rfl
theorem Shp_mk (name:Int) (n0:Int) (n1:Int) (e0:Int) (e1:Int) (body:Bool) (others:Bool) (cases:Bool) (op:Bool):(.agg [I name,I n0,I n1,I e0,I e1,.bool body,.bool others,.bool cases,.bool op]:AV)=(Shp.mk name n0 n1 e0 e1 body others cases op).av:=rfl
@[simp] theorem Shp_ld_name:zk false 1 s.av.cells=I s.name:=rfl
@[simp] theorem Shp_fv_name:zaE false 1 0 s.av=I s.name:=rfl
@[simp] theorem Shp_st_name (x:Int):zo [s.av] 0 0 (I x)=some [({s with name:=x}:Shp).av]:=rfl
@[simp] theorem Shp_ld_n0:zk false 1 s.av.cells.tail=I s.n0:=rfl
@[simp] theorem Shp_fv_n0:zaE false 1 1 s.av=I s.n0:=rfl
@[simp] theorem Shp_st_n0 (x:Int):zo [s.av] 0 1 (I x)=some [({s with n0:=x}:Shp).av]:=rfl
@[simp] theorem Shp_ld_n1:zk false 1 (s.av.cells.drop 2)=I s.n1:=rfl
@[simp] theorem Shp_fv_n1:zaE false 1 2 s.av=I s.n1:=rfl
@[simp] theorem Shp_st_n1 (x:Int):zo [s.av] 0 2 (I x)=some [({s with n1:=x}:Shp).av]:=rfl
@[simp] theorem Shp_ld_e0:zk false 1 (s.av.cells.drop 3)=I s.e0:=rfl
@[simp] theorem Shp_fv_e0:zaE false 1 3 s.av=I s.e0:=rfl
@[simp] theorem Shp_st_e0 (x:Int):zo [s.av] 0 3 (I x)=some [({s with e0:=x}:Shp).av]:=rfl
@[simp] theorem Shp_ld_e1:zk false 1 (s.av.cells.drop 4)=I s.e1:=rfl
@[simp] theorem Shp_fv_e1:zaE false 1 4 s.av=I s.e1:=rfl
@[simp] theorem Shp_st_e1 (x:Int):zo [s.av] 0 4 (I x)=some [({s with e1:=x}:Shp).av]:=rfl
@[simp] theorem Shp_ld_body:zk false 1 (s.av.cells.drop 5)= .bool s.body:=rfl
@[simp] theorem Shp_fv_body:zaE false 1 5 s.av= .bool s.body:=rfl
@[simp] theorem Shp_st_body (x:Bool):zo [s.av] 0 5 (.bool x)=some [({s with body:=x}:Shp).av]:=rfl
@[simp] theorem Shp_ld_others:zk false 1 (s.av.cells.drop 6)= .bool s.others:=rfl
@[simp] theorem Shp_fv_others:zaE false 1 6 s.av= .bool s.others:=rfl
@[simp] theorem Shp_st_others (x:Bool):zo [s.av] 0 6 (.bool x)=some [({s with others:=x}:Shp).av]:=rfl
@[simp] theorem Shp_ld_cases:zk false 1 (s.av.cells.drop 7)= .bool s.cases:=rfl
@[simp] theorem Shp_fv_cases:zaE false 1 7 s.av= .bool s.cases:=rfl
@[simp] theorem Shp_st_cases (x:Bool):zo [s.av] 0 7 (.bool x)=some [({s with cases:=x}:Shp).av]:=rfl
@[simp] theorem Shp_ld_op:zk false 1 (s.av.cells.drop 8)= .bool s.op:=rfl
@[simp] theorem Shp_fv_op:zaE false 1 8 s.av= .bool s.op:=rfl
@[simp] theorem Shp_st_op (x:Bool):zo [s.av] 0 8 (.bool x)=some [({s with op:=x}:Shp).av]:=rfl
@[simp] theorem Shp_st_all (x:Shp):zo [s.av] 0 0 x.av=some [x.av]:=rfl
@[simp] theorem Shp_st_new (x:Shp):zo [.agg [.int .i64 0,.int .i64 0,.int .i64 0,.int .i64 0,.int .i64 0,.bool false,.bool false,.bool false,.bool false]] 0 0 x.av=some [x.av]:=rfl
def Shp.wf (s:Shp):Prop:=(Lit.int .i64 s.name).wf=true∧(Lit.int .i64 s.n0).wf=true∧(Lit.int .i64 s.n1).wf=true∧(Lit.int .i64 s.e0).wf=true∧(Lit.int .i64 s.e1).wf=true∧True
end
end Go.Proofs.YtgamobngbenehaaGreatDoor
end
section
namespace Go.Proofs.YtgamobngbenehaaGreatDoor
open Go Go.RowKit
set_option linter.unusedVariables false
set_option linter.unusedSimpArgs false
set_option maxRecDepth 10000
def opT:List Op4:=[⟨50,[108,111,99,107],0,0⟩,⟨52,[117,110,108,111,99,107],0,0⟩,⟨53,[114,101,97,100,108,111,99,107],0,0⟩,⟨54,[114,101,97,100,117,110,108,111,99,107],0,0⟩,⟨55,[119,114,105,116,101,108,111,99,107],0,0⟩,⟨56,[119,114,105,116,101,117,110,108,111,99,107],0,0⟩,⟨57,[119,97,105,116],0,0⟩,⟨58,[115,105,103,110,97,108],0,0⟩,⟨59,[98,114,111,97,100,99,97,115,116],0,0⟩,⟨69,[115,117,98,115,99,114,105,98,101],0,0⟩,⟨71,[117,110,115,117,98,115,99,114,105,98,101],0,0⟩,⟨66,[99,108,111,115,101],0,0⟩,⟨60,[97,99,113,117,105,114,101],1,0⟩,⟨62,[114,101,108,101,97,115,101],1,0⟩,⟨64,[115,101,110,100],1,0⟩,⟨68,[112,117,98,108,105,115,104],1,0⟩,⟨72,[116,97,107,101],1,0⟩,⟨73,[99,111,109,112,108,101,116,101],1,0⟩,⟨51,[116,114,121,108,111,99,107],0,1⟩,⟨63,[97,114,114,105,118,101],0,1⟩,⟨70,[110,101,120,116],0,1⟩,⟨74,[97,119,97,105,116],0,1⟩,⟨61,[116,114,121,97,99,113,117,105,114,101],1,1⟩,⟨65,[114,101,99,101,105,118,101],0,2⟩]
theorem e213:W.pure 202 []=some (Sl.av Op4.av 4 (ofL 4 opT)):=(zah 60).pure _ _ _ (by kernel_rfl)
theorem znW (x:Sl Op4) (hl:x.l.length≤9223372036854775807) (y:AV) (hy:okO y=some y) (p:Op4→Bool) (H0:Heap) (hp:∀a∈x.l,∀H,Kept none H0 H→okV (W.call y [Op4.av a] H) (fun v H'=>v= .bool (p a)∧Kept none H H')):
  ∀(r:List Op4) (k:Nat) (H:Heap),x.l.drop k=r→k≤x.l.length→Kept none H0 H→
  okC (W.loop [0,1,7,8] zj9 [(0,Sl.av Op4.av 4 x),(1,y),(7,I x.l.length),(8,I k)] H)
   (fun q F' H'=>Kept none H0 H'∧((fidx p r=none∧q= .exit 0)∨∃j,fidx p r=some j∧q= .ret∧F'.get 4=I (k+j:Nat))):=by
 intro r
 induction r with
 |nil=>
  intro k H h1 h2 hk0
  have hk:=zn h1 h2
  rw[zp]
  simp[zdS,ze5,zd,hk,hy,hk0,fidx]
 |cons a r ihr=>
  intro k H h1 h2 hk0
  obtain⟨hlt,ha,hr⟩:=zF h1
  have hlt':(k:Int)<x.l.length:=by omega
  have hak:x.l[k]=a:=(gEs.1 ha).2
  obtain⟨v,H1,c1,rfl,c2⟩:=zz.1 (hp a (zH h1) H hk0)
  have hw:IntKind.wrap .i64 ((k:Int)+1)=(k:Int)+1:=by rw[zQ]<;>omega
  rw[zp]
  cases hpa:p a with
  |true=>
   rw[hpa]at c1
   have hf:fidx p (a::r)=some 0:=by simp[fidx,hpa]
   rw[hf]
   simp[zdS,ze5,zd,hlt,hak,hy,c1]
   exact hk0.trans c2
  |false=>
   rw[hpa]at c1
   have hJ:=ihr (k+1) H1 hr (by omega) (hk0.trans c2)
   simp only[Int.natCast_add,Int.cast_ofNat_Int]at hJ
   obtain⟨q,F',H',g1,g2,g3⟩:=zr.1 hJ
   rcases g3 with⟨g3,rfl⟩|⟨j,g3,rfl,g4⟩
   .have hf:fidx p (a::r)=none:=by simp[fidx,hpa,g3]
    rw[hf]
    simp[zdS,ze5,zd,hlt,hak,hy,c1,hw,g1,g2]
   .have hf:fidx p (a::r)=some (j+1):=by simp[fidx,hpa,g3]
    rw[hf]
    simp[zdS,ze5,zd,hlt,hak,hy,c1,hw,g1,g2,g4]
    omega
theorem zqD (x:Sl Op4) (hl:x.l.length≤9223372036854775807) (y:AV) (hy:okO y=some y) (p:Op4→Bool) (H0:Heap) (hp:∀a∈x.l,∀H,Kept none H0 H→okV (W.call y [Op4.av a] H) (fun v H'=>v= .bool (p a)∧Kept none H H')):
  okV (W.call (.clo 223 [] []) [Sl.av Op4.av 4 x,y] H0) (fun v H'=>v=I (match fidx p x.l with|some j=>(j:Int)|none=> -1)∧Kept none H0 H'):=by
 rw[zL Φ223]
 have hL:=znW x hl y hy p H0 hp x.l 0 H0 rfl (by omega) (Kept.refl _ _)
 simp only[Int.natCast_zero,Nat.zero_add]at hL
 obtain⟨q,F',H',g1,g2,g3⟩:=zr.1 hL
 rcases g3 with⟨g3,rfl⟩|⟨j,g3,rfl,g4⟩
 .simp[zkD,c223,zi,ze,zd,resV,rvVs,rvV,hy,g1,g3,g2]
 .simp[zkD,c223,zi,ze,zd,resV,rvVs,rvV,hy,g1,g3,g2,g4]
theorem zgz {α:Type} (p:α→Bool):∀l:List α,match fidx p l with|some j=>∃a,l[j]?=some a∧l.find? p=some a|none=>l.find? p=none
 | []=>rfl
 |a::r=>by
  have ih:=zgz p r
  cases h:p a with
  |true=>simp[fidx,h]
  |false=>
   cases hf:fidx p r with
   |none=>rw[hf]at ih;simp[fidx,h,hf,ih]
   |some j=>rw[hf]at ih;obtain⟨b,h1,h2⟩:=ih;simp[fidx,h,hf,h1,h2]
theorem zpq (o:Op4) (n:Int) (id:Nat) (H:Heap) (h:H[id]?=some (.arr 0 1 false [I n])):W.call (.clo 224 [] [.optr id 0 0 0]) [o.av] H=some (.bool (decide (o.op=n)),H++[.arr 0 4 false [o.av]]):=by
 rw[zL Φ224]
 have p1:∀B,(H++[B])[id]?=some (.arr 0 1 false [I n]):=zw h
 by_cases hn:o.op=n<;>simp[zmw,c224,zi,ze,zd,resV,rvVs,rvV,p1,hn,zg, -getElem?_pos,gEz]
def opOf (n:Int):Option Op4:=opT.find? fun o=>decide (o.op=n)
def opZ:Op4:=⟨0,[],0,0⟩
theorem e185 (n:Int):W.pure 177 [I n]=some (.tuple [((opOf n).getD opZ).av,.bool (opOf n).isSome]):=by
 rw[zG Φ177 rfl]
 have c1:=e213
 obtain⟨v,H',d1,rfl,d2⟩:=zz.1 (zqD (ofL 4 opT) (by decide) (.clo 224 [] [.optr 0 0 0 0]) rfl (fun o=>decide (o.op=n)) [.arr 0 1 false [I n],.arr 0 4 false [opZ.av]] (fun a _ H hk=>by
  have:H[0]?=some (.arr 0 1 false [I n]):=hk.get (by simp) rfl
  rw[zpq a n 0 H this]
  exact⟨rfl,Kept.append _ _ _⟩))
 have g1:H'[1]?=some (.arr 0 4 false [opZ.av]):=d2.get (by simp) rfl
 have s1:∀B,(H'.set 1 B)[1]?=some B:=fun B=>gEt (by have:=d2.1;simp at this;omega)
 have z:(.agg [I 0,.str [],I 0,I 0]:AV)=opZ.av:=rfl
 have hf:=zgz (fun o:Op4=>decide (o.op=n)) opT
 unfold opOf
 cases hx:fidx (fun o:Op4=>decide (o.op=n)) opT with
 |none=>
  rw[hx]at hf d1
  simp only at hf d1
  rw[hf]
  simp[zkI,c177,zi,ze,zd,resV,rvVs,rvV,c1,z,d1,g1,s1, -getElem?_pos,gEz]
 |some j=>
  rw[hx]at hf d1
  obtain⟨a,h1,h2⟩:=hf
  simp only at d1
  rw[h2]
  have hj:¬((j:Int)<0):=by omega
  simp[zkI,c177,zi,ze,zd,resV,rvVs,rvV,c1,z,d1,g1,s1,h1,hj, -getElem?_pos,gEz]
def zD (k op:Int):Shp×Bool:=
 if k=19 then (⟨1,((opOf op).getD opZ).names,((opOf op).getD opZ).names,((opOf op).getD opZ).exprs,((opOf op).getD opZ).exprs,false,false,false,true⟩,(opOf op).isSome)
 else if k=1∨k=2 then (⟨1,0,0,1,1,false,false,false,false⟩,true)
 else if k=3 then (⟨0,0,0,1,1,true,true,false,false⟩,true)
 else if k=4∨k=5 then (⟨0,0,0,1,1,true,false,false,false⟩,true)
 else if k=6∨k=7∨k=8∨k=9∨k=10∨k=24 then (⟨0,0,0,1,1,false,false,false,false⟩,true)
 else if k=11∨k=12∨k=13 then (⟨0,0,0,0,0,false,false,false,false⟩,true)
 else if k=14 then (⟨2,0,0,2,2,true,false,false,false⟩,true)
 else if k=15 then (⟨0,0,0,0,0,true,false,false,false⟩,true)
 else if k=16∨k=18 then (⟨1,0,0,0,8,false,false,false,false⟩,true)
 else if k=17 then (⟨1,0,1,0,8,false,false,false,false⟩,true)
 else if k=20 then (⟨0,0,0,0,0,false,false,true,false⟩,true)
 else if k=21 then (⟨1,1,1,1,1,false,false,false,false⟩,true)
 else if k=22 then (⟨1,1,1,2,2,false,false,false,false⟩,true)
 else if k=23 then (⟨0,0,0,2,2,false,false,false,false⟩,true)
 else (⟨0,0,0,0,0,false,false,false,false⟩,false)
theorem zSh (a b c d e:Int) (f g h i:Bool):(.agg [I a,I b,I c,I d,I e,.bool f,.bool g,.bool h,.bool i]:AV)=(Shp.mk a b c d e f g h i).av:=rfl
theorem zOp:(.agg [I 0,.str [],I 0,I 0]:AV)=opZ.av:=rfl
end Go.Proofs.YtgamobngbenehaaGreatDoor
end
section
namespace Go.Proofs.YtgamobngbenehaaGreatDoor
open Go Go.RowKit
set_option linter.unusedVariables false
set_option linter.unusedSimpArgs false
set_option maxRecDepth 10000
theorem orc {f:FuncId} {args:List AV} {r:AV} (A:Rec) (hA:A.le W) (h:zcL A Φ f args=some r):W.pure f args=some r:=by
 rw[zdb];exact (zbb Φ f args).mono A _ hA r h
def oneR (g:FuncId) (k:List AV→Option AV):Rec:=⟨fun _ _ _=>none,fun f a=>if f=g then k a else none,fun _ _ _ _=>none⟩
theorem zp8 {g:FuncId} {k:List AV→Option AV} (h:∀a r,k a=some r→W.pure g a=some r):(oneR g k).le W:=by
 refine⟨fun _ _ _ _ h=>(by cases h),fun f a r h1=>?_,fun _ _ _ _ _ h=>(by cases h)⟩
 simp only[oneR]at h1
 split at h1
 .rename_i e;subst e;exact h _ _ h1
 .cases h1
def zlv:List AV→Option AV
 | [.int .i64 n]=>some (.tuple [((opOf n).getD opZ).av,.bool (opOf n).isSome])
 |_=>none
theorem zlu:∀a r,zlv a=some r→W.pure 177 a=some r:=by
 intro a r h
 unfold zlv at h
 split at h
 .cases h;exact e185 _
 .cases h
def shZ:Shp:=⟨0,0,0,0,0,false,false,false,false⟩
theorem zqx (o:Int) (n:List UInt8) (ns:Sl (List UInt8)) (es:Sl Ex) (b e:Sl St) (c:Sl Cs):W.pure 149 [(St.of 1 o n ns es b e c).av]=some (.tuple [(zD 1 o).1.av,.bool (zD 1 o).2]):=(zah 60).pure _ _ _ (by kernel_rfl)
theorem zqw (o:Int) (n:List UInt8) (ns:Sl (List UInt8)) (es:Sl Ex) (b e:Sl St) (c:Sl Cs):W.pure 149 [(St.of 2 o n ns es b e c).av]=some (.tuple [(zD 2 o).1.av,.bool (zD 2 o).2]):=(zah 60).pure _ _ _ (by kernel_rfl)
theorem zqv (o:Int) (n:List UInt8) (ns:Sl (List UInt8)) (es:Sl Ex) (b e:Sl St) (c:Sl Cs):W.pure 149 [(St.of 3 o n ns es b e c).av]=some (.tuple [(zD 3 o).1.av,.bool (zD 3 o).2]):=(zah 60).pure _ _ _ (by kernel_rfl)
theorem zqu (o:Int) (n:List UInt8) (ns:Sl (List UInt8)) (es:Sl Ex) (b e:Sl St) (c:Sl Cs):W.pure 149 [(St.of 4 o n ns es b e c).av]=some (.tuple [(zD 4 o).1.av,.bool (zD 4 o).2]):=(zah 60).pure _ _ _ (by kernel_rfl)
theorem zqt (o:Int) (n:List UInt8) (ns:Sl (List UInt8)) (es:Sl Ex) (b e:Sl St) (c:Sl Cs):W.pure 149 [(St.of 5 o n ns es b e c).av]=some (.tuple [(zD 5 o).1.av,.bool (zD 5 o).2]):=(zah 60).pure _ _ _ (by kernel_rfl)
theorem zqs (o:Int) (n:List UInt8) (ns:Sl (List UInt8)) (es:Sl Ex) (b e:Sl St) (c:Sl Cs):W.pure 149 [(St.of 6 o n ns es b e c).av]=some (.tuple [(zD 6 o).1.av,.bool (zD 6 o).2]):=(zah 60).pure _ _ _ (by kernel_rfl)
theorem zqr (o:Int) (n:List UInt8) (ns:Sl (List UInt8)) (es:Sl Ex) (b e:Sl St) (c:Sl Cs):W.pure 149 [(St.of 7 o n ns es b e c).av]=some (.tuple [(zD 7 o).1.av,.bool (zD 7 o).2]):=(zah 60).pure _ _ _ (by kernel_rfl)
theorem zqq (o:Int) (n:List UInt8) (ns:Sl (List UInt8)) (es:Sl Ex) (b e:Sl St) (c:Sl Cs):W.pure 149 [(St.of 8 o n ns es b e c).av]=some (.tuple [(zD 8 o).1.av,.bool (zD 8 o).2]):=(zah 60).pure _ _ _ (by kernel_rfl)
theorem zqp (o:Int) (n:List UInt8) (ns:Sl (List UInt8)) (es:Sl Ex) (b e:Sl St) (c:Sl Cs):W.pure 149 [(St.of 9 o n ns es b e c).av]=some (.tuple [(zD 9 o).1.av,.bool (zD 9 o).2]):=(zah 60).pure _ _ _ (by kernel_rfl)
theorem zoB (o:Int) (n:List UInt8) (ns:Sl (List UInt8)) (es:Sl Ex) (b e:Sl St) (c:Sl Cs):W.pure 149 [(St.of 10 o n ns es b e c).av]=some (.tuple [(zD 10 o).1.av,.bool (zD 10 o).2]):=(zah 60).pure _ _ _ (by kernel_rfl)
theorem zoA (o:Int) (n:List UInt8) (ns:Sl (List UInt8)) (es:Sl Ex) (b e:Sl St) (c:Sl Cs):W.pure 149 [(St.of 11 o n ns es b e c).av]=some (.tuple [(zD 11 o).1.av,.bool (zD 11 o).2]):=(zah 60).pure _ _ _ (by kernel_rfl)
theorem zoz (o:Int) (n:List UInt8) (ns:Sl (List UInt8)) (es:Sl Ex) (b e:Sl St) (c:Sl Cs):W.pure 149 [(St.of 12 o n ns es b e c).av]=some (.tuple [(zD 12 o).1.av,.bool (zD 12 o).2]):=(zah 60).pure _ _ _ (by kernel_rfl)
theorem zoy (o:Int) (n:List UInt8) (ns:Sl (List UInt8)) (es:Sl Ex) (b e:Sl St) (c:Sl Cs):W.pure 149 [(St.of 13 o n ns es b e c).av]=some (.tuple [(zD 13 o).1.av,.bool (zD 13 o).2]):=(zah 60).pure _ _ _ (by kernel_rfl)
theorem zox (o:Int) (n:List UInt8) (ns:Sl (List UInt8)) (es:Sl Ex) (b e:Sl St) (c:Sl Cs):W.pure 149 [(St.of 14 o n ns es b e c).av]=some (.tuple [(zD 14 o).1.av,.bool (zD 14 o).2]):=(zah 60).pure _ _ _ (by kernel_rfl)
theorem zow (o:Int) (n:List UInt8) (ns:Sl (List UInt8)) (es:Sl Ex) (b e:Sl St) (c:Sl Cs):W.pure 149 [(St.of 15 o n ns es b e c).av]=some (.tuple [(zD 15 o).1.av,.bool (zD 15 o).2]):=(zah 60).pure _ _ _ (by kernel_rfl)
theorem zov (o:Int) (n:List UInt8) (ns:Sl (List UInt8)) (es:Sl Ex) (b e:Sl St) (c:Sl Cs):W.pure 149 [(St.of 16 o n ns es b e c).av]=some (.tuple [(zD 16 o).1.av,.bool (zD 16 o).2]):=(zah 60).pure _ _ _ (by kernel_rfl)
theorem zou (o:Int) (n:List UInt8) (ns:Sl (List UInt8)) (es:Sl Ex) (b e:Sl St) (c:Sl Cs):W.pure 149 [(St.of 17 o n ns es b e c).av]=some (.tuple [(zD 17 o).1.av,.bool (zD 17 o).2]):=(zah 60).pure _ _ _ (by kernel_rfl)
theorem zot (o:Int) (n:List UInt8) (ns:Sl (List UInt8)) (es:Sl Ex) (b e:Sl St) (c:Sl Cs):W.pure 149 [(St.of 18 o n ns es b e c).av]=some (.tuple [(zD 18 o).1.av,.bool (zD 18 o).2]):=(zah 60).pure _ _ _ (by kernel_rfl)
theorem zor (o:Int) (n:List UInt8) (ns:Sl (List UInt8)) (es:Sl Ex) (b e:Sl St) (c:Sl Cs):W.pure 149 [(St.of 20 o n ns es b e c).av]=some (.tuple [(zD 20 o).1.av,.bool (zD 20 o).2]):=(zah 60).pure _ _ _ (by kernel_rfl)
theorem zoq (o:Int) (n:List UInt8) (ns:Sl (List UInt8)) (es:Sl Ex) (b e:Sl St) (c:Sl Cs):W.pure 149 [(St.of 21 o n ns es b e c).av]=some (.tuple [(zD 21 o).1.av,.bool (zD 21 o).2]):=(zah 60).pure _ _ _ (by kernel_rfl)
theorem zop (o:Int) (n:List UInt8) (ns:Sl (List UInt8)) (es:Sl Ex) (b e:Sl St) (c:Sl Cs):W.pure 149 [(St.of 22 o n ns es b e c).av]=some (.tuple [(zD 22 o).1.av,.bool (zD 22 o).2]):=(zah 60).pure _ _ _ (by kernel_rfl)
theorem zoo (o:Int) (n:List UInt8) (ns:Sl (List UInt8)) (es:Sl Ex) (b e:Sl St) (c:Sl Cs):W.pure 149 [(St.of 23 o n ns es b e c).av]=some (.tuple [(zD 23 o).1.av,.bool (zD 23 o).2]):=(zah 60).pure _ _ _ (by kernel_rfl)
theorem zon (o:Int) (n:List UInt8) (ns:Sl (List UInt8)) (es:Sl Ex) (b e:Sl St) (c:Sl Cs):W.pure 149 [(St.of 24 o n ns es b e c).av]=some (.tuple [(zD 24 o).1.av,.bool (zD 24 o).2]):=(zah 60).pure _ _ _ (by kernel_rfl)
theorem zos (o:Int) (n:List UInt8) (ns:Sl (List UInt8)) (es:Sl Ex) (b e:Sl St) (c:Sl Cs):W.pure 149 [(St.of 19 o n ns es b e c).av]=some (.tuple [(zD 19 o).1.av,.bool (zD 19 o).2]):=
 orc (oneR 177 zlv) (zp8 zlu) (by kernel_rfl)
theorem zqn (k:Nat) (o:Int) (n:List UInt8) (ns:Sl (List UInt8)) (es:Sl Ex) (b e:Sl St) (c:Sl Cs):W.pure 149 [(St.of (Int.ofNat (k+25)) o n ns es b e c).av]=some (.tuple [shZ.av,.bool false]):=(zah 60).pure _ _ _ (by kernel_rfl)
theorem zqo (k:Nat) (o:Int) (n:List UInt8) (ns:Sl (List UInt8)) (es:Sl Ex) (b e:Sl St) (c:Sl Cs):W.pure 149 [(St.of (Int.negSucc k) o n ns es b e c).av]=some (.tuple [shZ.av,.bool false]):=(zah 60).pure _ _ _ (by kernel_rfl)
theorem zqm (o:Int) (n:List UInt8) (ns:Sl (List UInt8)) (es:Sl Ex) (b e:Sl St) (c:Sl Cs):W.pure 149 [(St.of 0 o n ns es b e c).av]=some (.tuple [shZ.av,.bool false]):=(zah 60).pure _ _ _ (by kernel_rfl)
theorem zjq (k o:Int) (h:k<1∨24<k):zD k o=(shZ,false):=by
 unfold zD
 rw[if_neg (by omega),if_neg (by omega),if_neg (by omega),if_neg (by omega),if_neg (by omega),if_neg (by omega),if_neg (by omega),if_neg (by omega),if_neg (by omega),if_neg (by omega),if_neg (by omega),if_neg (by omega),if_neg (by omega),if_neg (by omega)]
 rfl
theorem k155 (k:Int) (o:Int) (n:List UInt8) (ns:Sl (List UInt8)) (es:Sl Ex) (b e:Sl St) (c:Sl Cs):W.pure 149 [(St.of k o n ns es b e c).av]=some (.tuple [(zD k o).1.av,.bool (zD k o).2]):=by
 by_cases h1:k=1
 .subst h1;exact zqx _ _ _ _ _ _ _
 by_cases h2:k=2
 .subst h2;exact zqw _ _ _ _ _ _ _
 by_cases h3:k=3
 .subst h3;exact zqv _ _ _ _ _ _ _
 by_cases h4:k=4
 .subst h4;exact zqu _ _ _ _ _ _ _
 by_cases h5:k=5
 .subst h5;exact zqt _ _ _ _ _ _ _
 by_cases h6:k=6
 .subst h6;exact zqs _ _ _ _ _ _ _
 by_cases h7:k=7
 .subst h7;exact zqr _ _ _ _ _ _ _
 by_cases h8:k=8
 .subst h8;exact zqq _ _ _ _ _ _ _
 by_cases h9:k=9
 .subst h9;exact zqp _ _ _ _ _ _ _
 by_cases h10:k=10
 .subst h10;exact zoB _ _ _ _ _ _ _
 by_cases h11:k=11
 .subst h11;exact zoA _ _ _ _ _ _ _
 by_cases h12:k=12
 .subst h12;exact zoz _ _ _ _ _ _ _
 by_cases h13:k=13
 .subst h13;exact zoy _ _ _ _ _ _ _
 by_cases h14:k=14
 .subst h14;exact zox _ _ _ _ _ _ _
 by_cases h15:k=15
 .subst h15;exact zow _ _ _ _ _ _ _
 by_cases h16:k=16
 .subst h16;exact zov _ _ _ _ _ _ _
 by_cases h17:k=17
 .subst h17;exact zou _ _ _ _ _ _ _
 by_cases h18:k=18
 .subst h18;exact zot _ _ _ _ _ _ _
 by_cases h19:k=19
 .subst h19;exact zos _ _ _ _ _ _ _
 by_cases h20:k=20
 .subst h20;exact zor _ _ _ _ _ _ _
 by_cases h21:k=21
 .subst h21;exact zoq _ _ _ _ _ _ _
 by_cases h22:k=22
 .subst h22;exact zop _ _ _ _ _ _ _
 by_cases h23:k=23
 .subst h23;exact zoo _ _ _ _ _ _ _
 by_cases h24:k=24
 .subst h24;exact zon _ _ _ _ _ _ _
 rw[zjq k o (by omega)]
 rcases k with k|k
 .rcases k with _|k
  .exact zqm _ _ _ _ _ _ _
  .obtain⟨m,rfl⟩:∃m,k=m+24:=⟨k - 24,by simp at *;omega⟩
   exact zqn m _ _ _ _ _ _ _
 .exact zqo k _ _ _ _ _ _ _
theorem e155 (x:St):W.pure 149 [x.av]=some (.tuple [(zD x.kind x.op).1.av,.bool (zD x.kind x.op).2]):=by
 have h:=k155 x.kind x.op x.name x.names x.exprs x.body x.els x.cs
 rwa [←St.eta x]at h
end Go.Proofs.YtgamobngbenehaaGreatDoor
end
section
namespace Go.Proofs.YtgamobngbenehaaGreatDoor
open Go Go.RowKit
set_option linter.unusedVariables false
set_option linter.unusedSimpArgs false
set_option maxRecDepth 10000
theorem e111 (a b c:Int):W.pure 102 [I a,I b,I c]=some (.bool (decide (b≤a∧a≤c))):=by
 rw[zG Φ102 rfl]
 by_cases h1:b≤a<;>by_cases h2:a≤c<;>simp[zmL,c102,zi,ze,zd,resV,rvVs,rvV,h1,h2]
def casB (c:Cs):Bool:=if c.kind=1 then decide (c.names.l=[]) else if c.kind=2 then zau c.expr&&decide (c.names.l.length=2) else decide (c.name=[])&&zau c.expr&&decide (c.names.l=[])
theorem e187 (c:Cs):W.pure 179 [c.av]=some (.bool (casB c)):=by
 rw[zG Φ179 (by simp)]
 have c1:=e121 c.expr
 unfold casB
 by_cases h1:c.kind=1
 .by_cases h2:c.names.l=[]<;>simp[zhm,c179,zi,ze,zd,resV,rvVs,rvV,h1,h2]
 by_cases h2:c.kind=2
 .by_cases h4:c.names.l.length=2
  .have h5:(c.names.l.length:Int)=2:=by omega
   cases h3:zau c.expr<;>rw[h3]at c1<;>simp[zhm,c179,zi,ze,zd,resV,rvVs,rvV,h1,h2,c1,h3,h4,h5]
  .have h5:¬(c.names.l.length:Int)=2:=by omega
   cases h3:zau c.expr<;>rw[h3]at c1<;>simp[zhm,c179,zi,ze,zd,resV,rvVs,rvV,h1,h2,c1,h3,h4,h5]
 .by_cases h3:c.name=[]<;>cases h4:zau c.expr<;>rw[h4]at c1<;>by_cases h5:c.names.l=[]<;>simp[zhm,c179,zi,ze,zd,resV,rvVs,rvV,zV,h1,h2,h3,h4,h5,c1]
theorem zps (c:Cs) (H:Heap):W.call (.clo 178 [] []) [c.av] H=some (.bool (!casB c),H++[.arr 0 9 false [c.av]]):=by
 rw[zL Φ178]
 have c1:=e187 c
 cases h:casB c<;>rw[h]at c1<;>simp[zmB,c178,zi,ze,zd,resV,rvVs,rvV,c1,zg, -getElem?_pos,gEz]
def fldB (x:St) (s:Shp):Bool:=
 if ((s.name=0∧¬x.name=[]∨s.op=false∧¬x.op=0)∨s.body=false∧0<x.body.l.length)∨s.others=false∧0<x.els.l.length then false
 else if ((x.names.l.length:Int)<s.n0∨s.n1<x.names.l.length)∨(x.exprs.l.length:Int)<s.e0∨s.e1<x.exprs.l.length then false
 else if s.cases=false then decide (x.cs.l=[])
 else if 1≤(x.cs.l.length:Int)∧(x.cs.l.length:Int)≤6 then x.cs.l.all casB else false
theorem zen {α:Type} (p:α→Bool) (l:List α):l.any (fun a=> !p a)= !l.all p:=by rw[List.any_eq_not_all_not];simp
theorem e157 (x:St) (s:Shp) (hl:x.cs.l.length≤9223372036854775807):W.pure 151 [x.av,s.av]=some (.bool (fldB x s)):=by
 rw[zG Φ151 (by simp)]
 have n1:=e111 x.names.l.length s.n0 s.n1
 have n2:=e111 x.exprs.l.length s.e0 s.e1
 have n3:=e111 x.cs.l.length 1 6
 obtain⟨v,H',d1,rfl,d2⟩:=zz.1 (zii x.cs (by omega) (.clo 178 [] []) rfl (fun c=> !casB c) [.arr 0 8 false [x.av],.arr 0 9 false [s.av]] (fun a _ H _=>by rw[zps];exact⟨rfl,Kept.append _ _ _⟩))
 rw[zen]at d1
 simp[zmF,c151,zi,ze,zd,resV,rvVs,rvV,zV,n1,n2,n3,d1]
 unfold fldB
 repeat' split
 all_goals rfl
def namB (x:St) (s:Shp):Bool:=
 if ((s.name=1∨s.name=2∧¬x.name=[])∧zT x.name=false) then false
 else x.names.l.all zT&&x.cs.l.all fun c=>(decide (c.kind=3)||zT c.name)&&c.names.l.all zT
theorem zk8 (s:List UInt8) (H:Heap):W.call (.clo 180 [] []) [.str s] H=some (.bool (!zT s),H):=by
 rw[zL Φ180]
 have e1:=e110 s
 cases h:zT s<;>rw[h]at e1<;>simp[zmA,c180,zi,ze,zd,resV,rvVs,rvV,e1]
theorem zpr (c:Cs) (hl:c.names.l.length≤9223372036854775807) (id:Nat) (H:Heap) (h:H[id]?=some (.arr 0 1 false [.clo 180 [] []])):
  okV (W.call (.clo 181 [] [.optr id 0 0 0]) [c.av] H) (fun v H'=>v= .bool (!((decide (c.kind=3)||zT c.name)&&c.names.l.all zT))∧Kept none H H'):=by
 rw[zL Φ181]
 have e1:=e110 c.name
 have p1:∀B,(H++[B])[id]?=some (.arr 0 1 false [.clo 180 [] []]):=zw h
 obtain⟨v,H',d1,rfl,d2⟩:=zz.1 (zm7 c.names hl (.clo 180 [] []) rfl (fun s=> !zT s) (H++[.arr 0 9 false [c.av]]) (fun a _ H _=>by rw[zk8];exact⟨rfl,Kept.refl _ _⟩))
 rw[zen]at d1
 have k1:Kept none H (H++[.arr 0 9 false [c.av]]):=Kept.append _ _ _
 have k2:=k1.trans d2
 by_cases h1:c.kind=3<;>cases h2:zT c.name<;>rw[h2]at e1<;>cases h3:c.names.l.all zT<;>rw[h3]at d1<;>simp only[Bool.not_true,Bool.not_false]at d1<;>
  simp[zmz,c181,zi,ze,zd,resV,rvVs,rvV,h1,e1,d1,p1,zg, -getElem?_pos,gEz, -List.append_assoc,k1,k2]
theorem e158 (x:St) (s:Shp) (h1:x.names.l.length≤9223372036854775807) (h2:x.cs.l.length≤9223372036854775807) (h3:∀c∈x.cs.l,c.names.l.length≤9223372036854775807):
  W.pure 152 [x.av,s.av]=some (.bool (namB x s)):=by
 rw[zG Φ152 (by simp)]
 have e1:=e110 x.name
 obtain⟨v,H',d1,rfl,d2⟩:=zz.1 (zm7 x.names h1 (.clo 180 [] []) rfl (fun s=> !zT s) [.arr 0 8 false [x.av],.arr 0 9 false [s.av],.arr 0 1 false [.clo 180 [] []]] (fun a _ H _=>by rw[zk8];exact⟨rfl,Kept.refl _ _⟩))
 have g0:H'[0]?=some (.arr 0 8 false [x.av]):=d2.get (by simp) rfl
 have g2:H'[2]?=some (.arr 0 1 false [.clo 180 [] []]):=d2.get (by simp) rfl
 obtain⟨v2,H2,f1,rfl,f2⟩:=zz.1 (zii x.cs h2 (.clo 181 [] [.optr 2 0 0 0]) rfl (fun c=> !((decide (c.kind=3)||zT c.name)&&c.names.l.all zT)) H' (fun c hc G hk=>zpr c (h3 c hc) 2 G (hk.get (by simp) g2)))
 rw[zen]at d1 f1
 have n1:AV.nilf.cells=[AV.nilf]:=rfl
 have n2:AV.nilf.cell=true:=rfl
 have n3:zo [AV.nilf] 0 0 (.clo 180 [] [])=some [.clo 180 [] []]:=by simp[zo]
 unfold namB
 generalize x.names.l.all zT=m at *
 generalize (x.cs.l.all fun c=>(decide (c.kind=3)||zT c.name)&&c.names.l.all zT)=q at *
 cases e2:zT x.name<;>rw[e2]at e1<;>cases m<;>simp only[Bool.not_true,Bool.not_false]at d1
 all_goals simp[zmE,c152,zi,ze,zd,resV,rvVs,rvV,zV,e1,n1,n2,n3,d1,g0,g2,f1, -getElem?_pos,gEz]
 by_cases a1:s.name=1<;>by_cases a2:s.name=2<;>by_cases a3:x.name=[]<;>simp[a1,a2,a3]
end Go.Proofs.YtgamobngbenehaaGreatDoor
end
section
namespace Go.Proofs.YtgamobngbenehaaGreatDoor
open Go Go.RowKit
set_option linter.unusedVariables false
set_option linter.unusedSimpArgs false
set_option maxRecDepth 10000
def zaN (e:Ex):Nat:=if zau e=true then 0 else min e.size 101
mutual
def St.cost:St→Nat| .mk _ _ _ _ es _ _ bl _ _ el _ _ cl=>1+(es.l.map zaN).sum+Cs.costs cl+St.costs bl+St.costs el
def St.costs:List St→Nat| []=>0|x::r=>x.cost+St.costs r
def Cs.cost:Cs→Nat| .mk _ _ e _ _ _ bl=>1+zaN e+St.costs bl
def Cs.costs:List Cs→Nat| []=>0|x::r=>x.cost+Cs.costs r
end
theorem St.cost_eq (x:St):x.cost=1+(x.exprs.l.map zaN).sum+Cs.costs x.cs.l+St.costs x.body.l+St.costs x.els.l:=by cases x;simp only[St.cost];rfl
theorem Cs.cost_eq (x:Cs):x.cost=1+zaN x.expr+St.costs x.body.l:=by cases x;simp only[Cs.cost];rfl
def Rb (B L n T:Nat):Prop:=(T≤L∧n=T)∨(L<T∧L<n∧n≤B)
def zaM (L n:Nat) (e:Ex):Nat:=if zau e=false∧n≤L then n+min e.size 101 else n
theorem zgC {B L n T:Nat} {e:Ex} (h:Rb B L n T) (hB:L+101≤B):Rb B L (zaM L n e) (T+zaN e):=by
 unfold Rb zaM zaN at *
 cases hz:zau e
 .by_cases hn:n≤L
  .simp only[hn,and_self,if_true,Bool.false_eq_true,if_false];omega
  .simp only[hn,and_false,if_false,Bool.false_eq_true];omega
 .simp only[Bool.true_eq_false,false_and,if_false,if_true];omega
theorem zgD {B L:Nat} (hB:L+101≤B):∀(l:List Ex) (n T:Nat),Rb B L n T→Rb B L (l.foldl (zaM L) n) (T+(l.map zaN).sum)
 | [],n,T,h=>by simpa using h
 |e::r,n,T,h=>by
  have:=zgD hB r _ _ (zgC (e:=e) h hB)
  simp only[List.foldl_cons,List.map_cons,List.sum_cons]
  rw[show T+(zaN e+(r.map zaN).sum)=T+zaN e+(r.map zaN).sum by omega]
  exact this
theorem zk9 (e:Ex) (L n a b:Nat) (hab:a≠b) (hn:n≤1000000) (H:Heap) (ha:H[a]?=some (.arr 0 1 false [I n])) (hb:H[b]?=some (.arr 0 1 false [I L])):
  okV (W.call (.clo 121 [] [.optr a 0 0 0,.optr b 0 0 0]) [e.av] H) (fun v H'=>v= .tuple []∧H'[a]?=some (.arr 0 1 false [I (zaM L n e:Nat)])∧Kept (some a) H H'):=by
 rw[zL Φ121]
 have c1:=e121 e
 have c2:=e150 e
 have hal:=(gEs.1 ha).1
 have p1:∀B,(H++[B])[a]?=some (.arr 0 1 false [I n]):=zw ha
 have p2:∀B,(H++[B])[b]?=some (.arr 0 1 false [I L]):=zw hb
 have k1:Kept (some a) H (H++[.arr 0 5 false [e.av]]):=Kept.append _ _ _
 have s1:∀B C,((H++[B]).set a C)[a]?=some C:=fun B C=>gEt (by simp;omega)
 have k2:∀C,Kept (some a) H ((H++[Blk.arr 0 5 false [e.av]]).set a C):=fun C=>k1.trans (Kept.set _ _ _)
 unfold zaM
 cases hz:zau e with
 |true=>
  rw[hz]at c1
  simp[ziV,c121,zi,ze,zd,resV,rvVs,rvV,c1,p1,p2,k1,zg, -getElem?_pos,gEz]
 |false=>
  rw[hz]at c1
  by_cases hn2:n≤L
  .have hn3:(n:Int)≤L:=by omega
   have hw:IntKind.wrap .i64 ((n:Int)+((min e.size 101:Nat):Int))=((n+min e.size 101:Nat):Int):=by rw[zQ]<;>omega
   generalize min e.size 101=m at *
   simp[ziV,c121,zi,ze,zd,resV,rvVs,rvV,c1,c2,p1,p2,hn2,hn3,hw,s1,k2,zg, -getElem?_pos,gEz]
  .have hn3:¬(n:Int)≤L:=by omega
   simp[ziV,c121,zi,ze,zd,resV,rvVs,rvV,c1,p1,p2,hn2,hn3,k1,zg, -getElem?_pos,gEz]
theorem zj2 (l:Sl St) (i:Nat) (x:St) (hx:x.exprs.l.length≤9223372036854775807) (L a b q:Nat) (hL:L≤1000) (hab:a≠b) (haq:a≠q) (H0:Heap) (n0:Nat) (hn:n0≤L) (ha:H0[a]?=some (.arr 0 1 false [I n0])) (hb:H0[b]?=some (.arr 0 1 false [I L])):
  okC (W.loop [3,5,6,8,14,15,16,27,28,29] zmf [(3,.optr b 0 0 0),(5,.optr a 0 0 0),(6,.clo 121 [] [.optr a 0 0 0,.optr b 0 0 0]),(8,.optr q 0 0 0),(14,Sl.av St.av 8 l),(15,I l.l.length),(16,I i),(27,Sl.av Ex.av 5 x.exprs),(28,I x.exprs.l.length),(29,I 0)] H0)
   (fun y F H=>y= .exit 2∧F.keep [3,5,6,8,14,15,16]=[(3,.optr b 0 0 0),(5,.optr a 0 0 0),(6,.clo 121 [] [.optr a 0 0 0,.optr b 0 0 0]),(8,.optr q 0 0 0),(14,Sl.av St.av 8 l),(15,I l.l.length),(16,I i)]∧H[a]?=some (.arr 0 1 false [I (x.exprs.l.foldl (zaM L) n0:Nat)])∧Kept (some a) H0 H):=by
 have hL:=zjW (Φ:=Φ) (live:=[3,5,6,8,14,15,16,27,28,29]) (L:=zmf) x.exprs.l (σ:=Nat) (fun _ e n=>zaM L n e)
  (fun j n F H=>F=[(3,.optr b 0 0 0),(5,.optr a 0 0 0),(6,.clo 121 [] [.optr a 0 0 0,.optr b 0 0 0]),(8,.optr q 0 0 0),(14,Sl.av St.av 8 l),(15,I l.l.length),(16,I i),(27,Sl.av Ex.av 5 x.exprs),(28,I x.exprs.l.length),(29,I j)]∧H[a]?=some (.arr 0 1 false [I (n:Nat)])∧Kept (some a) H0 H∧n≤L+101)
  (fun n y F H=>y= .exit 2∧F.keep [3,5,6,8,14,15,16]=[(3,.optr b 0 0 0),(5,.optr a 0 0 0),(6,.clo 121 [] [.optr a 0 0 0,.optr b 0 0 0]),(8,.optr q 0 0 0),(14,Sl.av St.av 8 l),(15,I l.l.length),(16,I i)]∧H[a]?=some (.arr 0 1 false [I (n:Nat)])∧Kept (some a) H0 H)
  (s:=n0) (H:=H0) ⟨rfl,ha,Kept.refl _ _,by omega⟩ ?_ ?_
 .have hz:∀(r:List Ex) (k n:Nat),(r.zipIdx k).foldl (fun s p=>zaM L s p.1) n=r.foldl (zaM L) n:=by
   intro r
   induction r with
   |nil=>intro k n;rfl
   |cons e r ih=>intro k n;simp only[List.zipIdx_cons,List.foldl_cons];exact ih _ _
  rw[hz]at hL
  exact hL
 .rintro j e n F H hj he ⟨rfl,g1,g2,g3⟩
  have hej:x.exprs.l[j]=e:=(gEs.1 he).2
  have hw:IntKind.wrap .i64 ((j:Int)+1)=(j:Int)+1:=by rw[zQ]<;>omega
  have hbH:H[b]?=some (.arr 0 1 false [I L]):=g2.get (fun h=>hab (by cases h;rfl)) hb
  have p1:∀B,(H++[B])[a]?=some (.arr 0 1 false [I n]):=zw g1
  have p2:∀B,(H++[B])[b]?=some (.arr 0 1 false [I L]):=zw hbH
  obtain⟨v,H',c1,rfl,c2,c3⟩:=zz.1 (zk9 e L n a b hab (by omega) (H++[.arr 0 5 false [e.av]]) (p1 _) (p2 _))
  have k1:Kept (some a) H0 H':=(g2.trans (Kept.append _ _ _)).trans c3
  have hst:zaM L n e≤L+101:=by unfold zaM;split<;>omega
  simp[zkU,zmY,zd,hj,hej,hw,c1,c2,k1,hst,zg, -getElem?_pos,gEz,he]
 .rintro n F H ⟨rfl,g1,g2,g3⟩
  simp[zkU,zmY,zd,g1,g2]
end Go.Proofs.YtgamobngbenehaaGreatDoor
end
section
namespace Go.Proofs.YtgamobngbenehaaGreatDoor
open Go Go.RowKit
set_option linter.unusedVariables false
set_option linter.unusedSimpArgs false
set_option maxRecDepth 10000
mutual
def St.fine:St→Prop| .mk _ _ _ ns es _ _ bl _ _ el _ _ cl=>es.l.length≤9223372036854775807∧ns.l.length≤9223372036854775807∧bl.length≤9223372036854775807∧el.length≤9223372036854775807∧cl.length≤9223372036854775807∧St.fines bl∧St.fines el∧Cs.fines cl
def St.fines:List St→Prop| []=>True|x::r=>x.fine∧St.fines r
def Cs.fine:Cs→Prop| .mk _ _ _ ns _ _ bl=>ns.l.length≤9223372036854775807∧bl.length≤9223372036854775807∧St.fines bl
def Cs.fines:List Cs→Prop| []=>True|x::r=>x.fine∧Cs.fines r
end
theorem St.fine_eq (x:St):x.fine=(x.exprs.l.length≤9223372036854775807∧x.names.l.length≤9223372036854775807∧x.body.l.length≤9223372036854775807∧x.els.l.length≤9223372036854775807∧x.cs.l.length≤9223372036854775807∧St.fines x.body.l∧St.fines x.els.l∧Cs.fines x.cs.l):=by cases x;simp only[St.fine];rfl
theorem Cs.fine_eq (x:Cs):x.fine=(x.names.l.length≤9223372036854775807∧x.body.l.length≤9223372036854775807∧St.fines x.body.l):=by cases x;simp only[Cs.fine];rfl
theorem St.fines_mem {x:St}:∀{l:List St},St.fines l→x∈l→x.fine
 | [],_,h=>by cases h
 |a::r,hf,h=>by
  simp only[St.fines]at hf
  cases h with
  |head=>exact hf.1
  |tail _ h=>exact St.fines_mem hf.2 h
theorem Cs.fines_mem {x:Cs}:∀{l:List Cs},Cs.fines l→x∈l→x.fine
 | [],_,h=>by cases h
 |a::r,hf,h=>by
  simp only[Cs.fines]at hf
  cases h with
  |head=>exact hf.1
  |tail _ h=>exact Cs.fines_mem hf.2 h
def zly (L:Nat):Prop:=∀l:Sl St,St.fines l.l→l.l.length≤9223372036854775807→∃v:Nat,W.pure 65 [Sl.av St.av 8 l,I L]=some (I v)∧Rb (2* L+104) L v (St.costs l.l)
set_option maxHeartbeats 4000000 in
theorem zj3 (l:Sl St) (i:Nat) (x:St) (hx:x.cs.l.length≤9223372036854775807) (hf:Cs.fines x.cs.l) (L a b q:Nat) (hL:L≤1000) (hab:a≠b) (ih:∀L',L'<L→zly L') (T0:Nat):
  ∀(r:List Cs) (k n T:Nat) (H:Heap),x.cs.l.drop k=r→k≤x.cs.l.length→T+Cs.costs r=T0→1≤n→Rb (2* L+103) L n T→a<H.length→H[a]?=some (.arr 0 1 false [I n])→H[b]?=some (.arr 0 1 false [I L])→
  okC (W.loop [3,5,6,8,14,15,16,38,39,40] zof [(3,.optr b 0 0 0),(5,.optr a 0 0 0),(6,.clo 121 [] [.optr a 0 0 0,.optr b 0 0 0]),(8,.optr q 0 0 0),(14,Sl.av St.av 8 l),(15,I l.l.length),(16,I i),(38,Sl.av Cs.av 9 x.cs),(39,I x.cs.l.length),(40,I k)] H)
   (fun y F H'=>(y= .exit 4∧F.keep [3,5,6,8,14,15,16]=[(3,.optr b 0 0 0),(5,.optr a 0 0 0),(6,.clo 121 [] [.optr a 0 0 0,.optr b 0 0 0]),(8,.optr q 0 0 0),(14,Sl.av St.av 8 l),(15,I l.l.length),(16,I i)]∧∃n':Nat,H'[a]?=some (.arr 0 1 false [I n'])∧Kept (some a) H H'∧Rb (2* L+103) L n' T0∧1≤n')∨(y= .ret∧∃n':Nat,F.get 4=I n'∧L<n'∧n'≤2* L+104∧L<T0)):=by
 intro r
 induction r with
 |nil=>
  intro k n T H h1 h2 hT hn hR hal ha hb
  have hk:=zn h1 h2
  simp only[Cs.costs,Nat.add_zero]at hT
  subst hT
  rw[zp]
  simp[zhp,zlj,zd,hk]
  exact⟨n,ha,Kept.refl _ _,hR,hn⟩
 |cons c r ihr=>
  intro k n T H h1 h2 hT hn hR hal ha hb
  obtain⟨hlt,hc,hr⟩:=zF h1
  have hlt':(k:Int)<x.cs.l.length:=by omega
  have hw:IntKind.wrap .i64 ((k:Int)+1)=(k:Int)+1:=by rw[zQ]<;>omega
  have hmem:c∈x.cs.l:=List.mem_of_getElem? hc
  have hfc:=Cs.fines_mem hf hmem
  rw[Cs.fine_eq]at hfc
  have hnb:n≤2* L+103:=by unfold Rb at hR;omega
  have hw1:=zaa (k:=n) (by omega)
  have p1:∀B,(H++[B])[a]?=some (.arr 0 1 false [I n]):=zw ha
  have p2:∀B,(H++[B])[b]?=some (.arr 0 1 false [I L]):=zw hb
  have s1:∀B C,((H++[B]).set a C)[a]?=some C:=fun B C=>gEt (by simp;omega)
  have s2:∀B C,((H++[B]).set a C)[b]?=some (.arr 0 1 false [I L]):=fun B C=>by rw[gEn hab];exact p2 B
  have s3:∀B C,((H++[B]).set a C)[H.length]?=some B:=fun B C=>by rw[gEn (by omega)];exact zg _ _
  have k1:∀C,Kept (some a) H ((H++[Blk.arr 0 9 false [c.av]]).set a C):=fun C=>(Kept.append _ _ _).trans (Kept.set _ _ _)
  obtain⟨v,H3,c1,rfl,c2,c3⟩:=zz.1 (zk9 c.expr L (n+1) a b hab (by omega) ((H++[Blk.arr 0 9 false [c.av]]).set a (.arr 0 1 false [I (n+1:Nat)])) (s1 _ _) (s2 _ _))
  have g1:H3[H.length]?=some (.arr 0 9 false [c.av]):=c3.get (fun h=>by cases h;omega) (s3 _ _)
  have g2:H3[b]?=some (.arr 0 1 false [I L]):=c3.get (fun h=>by cases h;exact hab rfl) (s2 _ _)
  have k2:Kept (some a) H H3:=(k1 _).trans c3
  have hal3:a<H3.length:=(gEs.1 c2).1
  have hR1:Rb (2* L+104) L (n+1) (T+1):=by unfold Rb at *;omega
  have hR2:=zgC (e:=c.expr) hR1 (by omega)
  have hcost:c.cost=1+zaN c.expr+St.costs c.body.l:=Cs.cost_eq c
  simp only[Cs.costs]at hT
  have hm1:1≤zaM L (n+1) c.expr:=by unfold zaM;split<;>omega
  generalize zaM L (n+1) c.expr=m at *
  simp only[Int.natCast_add,Int.cast_ofNat_Int]at c1
  rw[zp]
  by_cases hm:L<m
  .have hm':(L:Int)<m:=by omega
   have hTT:L<T0:=by unfold Rb at hR2;omega
   have hmb:m≤2* L+104:=by unfold Rb at hR2;omega
   simp[zhp,zlj,zd,hlt,hlt',hc,hw,hw1,p1,p2,s1,s2,s3,c1,c2,g1,g2,hm,hm',zg, -getElem?_pos,gEz]
   exact⟨m,rfl,hm,hmb,hTT⟩
  .have hm':¬(L:Int)<m:=by omega
   obtain⟨w,e1,hw2⟩:=ih (L - m) (by omega) c.body hfc.2.2 hfc.2.1
   have hws:IntKind.wrap .i64 ((L:Int) - m)=((L - m:Nat):Int):=by rw[zQ]<;>omega
   have hwb:m+w≤2* L+103:=by unfold Rb at hw2;omega
   have hwa:IntKind.wrap .i64 ((m:Int)+w)=((m+w:Nat):Int):=by rw[zQ]<;>omega
   have s4:∀C,(H3.set a C)[a]?=some C:=fun C=>gEt hal3
   have s5:∀C,(H3.set a C)[b]?=some (.arr 0 1 false [I L]):=fun C=>by rw[gEn hab];exact g2
   have hR3:Rb (2* L+103) L (m+w) (T+c.cost):=by unfold Rb at *;omega
   have hJ:=ihr (k+1) (m+w) (T+c.cost) (H3.set a (.arr 0 1 false [I (m+w:Nat)])) hr (by omega) (by omega) (by omega) hR3 (by simp;omega) (s4 _) (s5 _)
   have k3:Kept (some a) H (H3.set a (.arr 0 1 false [I (m+w:Nat)])):=k2.trans (Kept.set _ _ _)
   simp[zhp,zlj,zd,hlt,hlt',hc,hw,hw1,p1,p2,s1,s2,s3,c1,c2,g1,g2,hm,hm',hws,e1,hwa,zg, -getElem?_pos,gEz]
   simp only[Int.natCast_add,Int.cast_ofNat_Int]at hJ
   simp only[Int.natCast_add]at k3
   obtain⟨y,F,H',e3,e4⟩:=zr.1 hJ
   rw[e3]
   simp only[zl4]
   rcases e4 with⟨rfl,e5,n',e6,e7,e8,e9⟩|⟨rfl,e5⟩
   .exact .inl ⟨rfl,by simpa using e5,n',e6,k3.trans e7,e8,e9⟩
   .exact .inr ⟨rfl,e5⟩
set_option maxHeartbeats 8000000 in
theorem zj1 (l:Sl St) (hl:l.l.length≤9223372036854775807) (hf:St.fines l.l) (L a b:Nat) (hL:L≤1000) (hab:a≠b) (ih:∀L',L'<L→zly L') (T0:Nat):
  ∀(r:List St) (k n T:Nat) (H:Heap),l.l.drop k=r→k≤l.l.length→T+St.costs r=T0→Rb (2* L+103) L n T→a<H.length→H[a]?=some (.arr 0 1 false [I n])→H[b]?=some (.arr 0 1 false [I L])→
  okC (W.loop [3,5,6,14,15,16] zoe [(3,.optr b 0 0 0),(5,.optr a 0 0 0),(6,.clo 121 [] [.optr a 0 0 0,.optr b 0 0 0]),(14,Sl.av St.av 8 l),(15,I l.l.length),(16,I k)] H)
   (fun y F H'=>(y= .exit 0∧F.get 5= .optr a 0 0 0∧∃n':Nat,H'[a]?=some (.arr 0 1 false [I n'])∧Rb (2* L+103) L n' T0)∨(y= .ret∧∃n':Nat,F.get 4=I n'∧L<n'∧n'≤2* L+104∧L<T0)):=by
 intro r
 induction r with
 |nil=>
  intro k n T H h1 h2 hT hR hal ha hb
  have hk:=zn h1 h2
  simp only[St.costs,Nat.add_zero]at hT
  subst hT
  rw[zp]
  simp[zdg,zgS,zd,hk]
  exact⟨n,ha,hR⟩
 |cons x r ihr=>
  intro k n T H h1 h2 hT hR hal ha hb
  obtain⟨hlt,hc,hr⟩:=zF h1
  have hlt':(k:Int)<l.l.length:=by omega
  have hw:IntKind.wrap .i64 ((k:Int)+1)=(k:Int)+1:=by rw[zQ]<;>omega
  have hmem:x∈l.l:=List.mem_of_getElem? hc
  have hfx:=St.fines_mem hf hmem
  rw[St.fine_eq]at hfx
  have hnb:n≤2* L+103:=by unfold Rb at hR;omega
  have hw1:=zaa (k:=n) (by omega)
  have p1:∀B,(H++[B])[a]?=some (.arr 0 1 false [I n]):=zw ha
  have p2:∀B,(H++[B])[b]?=some (.arr 0 1 false [I L]):=zw hb
  have s1:∀B C,((H++[B]).set a C)[a]?=some C:=fun B C=>gEt (by simp;omega)
  have s2:∀B C,((H++[B]).set a C)[b]?=some (.arr 0 1 false [I L]):=fun B C=>by rw[gEn hab];exact p2 B
  have s3:∀B C,((H++[B]).set a C)[H.length]?=some B:=fun B C=>by rw[gEn (by omega)];exact zg _ _
  have hcost:x.cost=1+(x.exprs.l.map zaN).sum+Cs.costs x.cs.l+St.costs x.body.l+St.costs x.els.l:=St.cost_eq x
  simp only[St.costs]at hT
  rw[zp]
  by_cases hm:L<n+1
  .have hm':(L:Int)<(n:Int)+1:=by omega
   simp[zdg,zgS,zd,hlt,hlt',hc,hw,hw1,p1,p2,s1,s2,s3,hm',zg, -getElem?_pos,gEz]
   exact⟨n+1,by simp,by omega,by omega,by unfold Rb at hR;omega⟩
  have hm':¬(L:Int)<(n:Int)+1:=by omega
  have hR0:Rb (2* L+103) L (n+1) (T+1):=by unfold Rb at *;omega
  obtain⟨y1,F1,H1,d1,rfl,d2,d3,d4⟩:=zr.1 (zj2 l k x hfx.1 L a b H.length hL hab (by omega) ((H++[Blk.arr 0 8 false [x.av]]).set a (.arr 0 1 false [I (n+1:Nat)])) (n+1) (by omega) (s1 _ _) (s2 _ _))
  have hR1:=zgD (B:=2* L+103) (L:=L) (by omega) x.exprs.l (n+1) (T+1) hR0
  have hm1:1≤x.exprs.l.foldl (zaM L) (n+1):=by
   have:∀(r:List Ex) (m:Nat),m≤r.foldl (zaM L) m:=by
    intro r
    induction r with
    |nil=>intro m;exact Nat.le_refl _
    |cons e r ih=>intro m;exact Nat.le_trans (by unfold zaM;split<;>omega) (ih _)
   have:=this x.exprs.l (n+1)
   omega
  generalize x.exprs.l.foldl (zaM L) (n+1)=m at *
  have g2:H1[b]?=some (.arr 0 1 false [I L]):=d4.get (fun h=>by cases h;exact hab rfl) (s2 _ _)
  have g3:H1[H.length]?=some (.arr 0 8 false [x.av]):=d4.get (fun h=>by cases h;omega) (s3 _ _)
  have hal1:a<H1.length:=(gEs.1 d3).1
  have hJ0:=zj3 l k x hfx.2.2.2.2.1 hfx.2.2.2.2.2.2.2 L a b H.length hL hab ih (T+1+(x.exprs.l.map zaN).sum+Cs.costs x.cs.l) x.cs.l 0 m (T+1+(x.exprs.l.map zaN).sum) H1 rfl (by omega) rfl hm1 hR1 hal1 d3 g2
  obtain⟨y2,F2,H2,f1,f2⟩:=zr.1 hJ0
  simp only[Int.natCast_add,Int.cast_ofNat_Int,Int.natCast_zero]at d1 f1
  rcases f2 with⟨rfl,f3,n2,f4,f5,f6,f7⟩|⟨rfl,n2,f3,f4,f5,f6⟩
  rotate_left
  .simp[zdg,zgS,zd,hlt,hlt',hc,hw,hw1,p1,p2,s1,s2,s3,hm',d1,d2,g3,f1,f3,zg, -getElem?_pos,gEz]
   exact⟨n2,rfl,f4,f5,by omega⟩
  have q2:H2[b]?=some (.arr 0 1 false [I L]):=f5.get (fun h=>by cases h;exact hab rfl) g2
  have q3:H2[H.length]?=some (.arr 0 8 false [x.av]):=f5.get (fun h=>by cases h;omega) g3
  have hal2:a<H2.length:=(gEs.1 f4).1
  have t1:∀C,(H2.set a C)[a]?=some C:=fun C=>gEt hal2
  have t2:∀C,(H2.set a C)[b]?=some (.arr 0 1 false [I L]):=fun C=>by rw[gEn hab];exact q2
  have t3:∀C,(H2.set a C)[H.length]?=some (.arr 0 8 false [x.av]):=fun C=>by rw[gEn (by omega)];exact q3
  have t4:∀C D,((H2.set a C).set a D)[a]?=some D:=fun C D=>gEt (by simp;omega)
  have t5:∀C D,((H2.set a C).set a D)[b]?=some (.arr 0 1 false [I L]):=fun C D=>by rw[gEn hab];exact t2 C
  by_cases hn2:n2≤L
  rotate_left
  .have hn2':¬(n2:Int)≤L:=by omega
   have hRf:Rb (2* L+103) L n2 (T+x.cost):=by unfold Rb at *;omega
   have hJ:=ihr (k+1) n2 (T+x.cost) H2 hr (by omega) (by omega) hRf hal2 f4 q2
   simp only[Int.natCast_add,Int.cast_ofNat_Int]at hJ
   simp[zdg,zgS,zd,hlt,hlt',hc,hw,hw1,p1,p2,s1,s2,s3,hm',d1,d2,g3,f1,f3,f4,q2,q3,hn2',zg, -getElem?_pos,gEz]
   exact hJ
  have hn2':(n2:Int)≤L:=by omega
  obtain⟨w,e1,hw2⟩:=ih (L - n2) (by omega) x.body hfx.2.2.2.2.2.1 hfx.2.2.1
  have hws:IntKind.wrap .i64 ((L:Int) - n2)=((L - n2:Nat):Int):=by rw[zQ]<;>omega
  have hwb:n2+w≤2* L+103:=by unfold Rb at hw2;omega
  have hwa:IntKind.wrap .i64 ((n2:Int)+w)=((n2+w:Nat):Int):=by rw[zQ]<;>omega
  have hR3:Rb (2* L+103) L (n2+w) (T+1+(x.exprs.l.map zaN).sum+Cs.costs x.cs.l+St.costs x.body.l):=by unfold Rb at *;omega
  by_cases hn3:n2+w≤L
  rotate_left
  .have hn3':¬(n2:Int)+w≤L:=by omega
   have hRf:Rb (2* L+103) L (n2+w) (T+x.cost):=by unfold Rb at *;omega
   have hJ:=ihr (k+1) (n2+w) (T+x.cost) (H2.set a (.arr 0 1 false [I (n2+w:Nat)])) hr (by omega) (by omega) hRf (by simp;omega) (t1 _) (t2 _)
   simp only[Int.natCast_add,Int.cast_ofNat_Int]at hJ
   simp[zdg,zgS,zd,hlt,hlt',hc,hw,hw1,p1,p2,s1,s2,s3,hm',d1,d2,g3,f1,f3,f4,q2,q3,hn2',hws,e1,hwa,t1,t2,t3,hn3',zg, -getElem?_pos,gEz]
   exact hJ
  have hn3':(n2:Int)+w≤L:=by omega
  obtain⟨u,e2,hu2⟩:=ih (L - (n2+w)) (by omega) x.els hfx.2.2.2.2.2.2.1 hfx.2.2.2.1
  have hus:IntKind.wrap .i64 ((L:Int) - ((n2:Int)+w))=((L - (n2+w):Nat):Int):=by rw[zQ]<;>omega
  have hub:n2+w+u≤2* L+103:=by unfold Rb at hu2;omega
  have hua:IntKind.wrap .i64 ((n2:Int)+w+u)=((n2+w+u:Nat):Int):=by rw[zQ]<;>omega
  have hRf:Rb (2* L+103) L (n2+w+u) (T+x.cost):=by unfold Rb at *;omega
  have hJ:=ihr (k+1) (n2+w+u) (T+x.cost) ((H2.set a (.arr 0 1 false [I (n2+w:Nat)])).set a (.arr 0 1 false [I (n2+w+u:Nat)])) hr (by omega) (by omega) hRf (by simp;omega) (t4 _ _) (t5 _ _)
  simp only[Int.natCast_add,Int.cast_ofNat_Int]at hJ
  simp[zdg,zgS,zd,hlt,hlt',hc,hw,hw1,p1,p2,s1,s2,s3,hm',d1,d2,g3,f1,f3,f4,q2,q3,hn2',hws,e1,hwa,t1,t2,t3,hn3',hus,e2,hua,t4,t5,zg, -getElem?_pos,gEz]
  simpa using hJ
end Go.Proofs.YtgamobngbenehaaGreatDoor
end
section
namespace Go.Proofs.YtgamobngbenehaaGreatDoor
open Go Go.RowKit
set_option linter.unusedVariables false
set_option linter.unusedSimpArgs false
set_option maxRecDepth 10000
theorem e105:∀L,L≤1000→zly L:=by
 intro L
 induction L using Nat.strongRecOn with
 |ind L ih=>
  intro hL l hf hl
  obtain⟨y,F,H',e1,e2⟩:=zr.1 (zj1 l hl hf L 1 0 hL (by omega) (fun L' h=>ih L' h (by omega)) (St.costs l.l) l.l 0 0 0 [.arr 0 1 false [I L],.arr 0 1 false [I 0]] rfl (by omega) (by omega) (.inl ⟨by omega,rfl⟩) (by simp) rfl rfl)
  simp only[Int.natCast_zero]at e1
  rcases e2 with⟨rfl,e3,n,e4,e5⟩|⟨rfl,n,e3,e4,e5,e6⟩
  .refine⟨n,?_,by unfold Rb at *;omega⟩
   rw[zG Φ65 rfl]
   simp[fi65,c65,zi,ze,zd,resV,rvVs,rvV,e1,e3,e4]
  .refine⟨n,?_,.inr ⟨e6,e4,e5⟩⟩
   rw[zG Φ65 rfl]
   simp[fi65,c65,zi,ze,zd,resV,rvVs,rvV,e1,e3]
def Pr.cost (p:Pr):Nat:=St.costs p.body.l
def Pr.fine (p:Pr):Prop:=St.fines p.body.l∧p.body.l.length≤9223372036854775807∧p.params.l.length≤9223372036854775807
theorem e70 (s:So) (hl:s.procs.l.length≤9223372036854775807) (hf:∀p∈s.procs.l,p.fine):W.pure 28 [s.av]=some (I (min (s.procs.l.map Pr.cost).sum 301:Nat)):=by
 rw[zG Φ28 rfl]
 have key:∀(r:List Pr) (k n T:Nat) (H:Heap),s.procs.l.drop k=r→k≤s.procs.l.length→Rb 704 300 n T→
   okC (W.loop [3,7,8,9] zoh [(3,I n),(7,Sl.av Pr.av 5 s.procs),(8,I s.procs.l.length),(9,I k)] H) (fun y F H'=>y= .exit 0∧∃n':Nat,F.get 3=I n'∧Rb 704 300 n' (T+(r.map Pr.cost).sum)):=by
  intro r
  induction r with
  |nil=>
   intro k n T H h1 h2 hR
   have hk:=zn h1 h2
   rw[zp]
   simp[zhq,zlk,zd,hk]
   exact⟨n,rfl,hR⟩
  |cons p r ihr=>
   intro k n T H h1 h2 hR
   obtain⟨hlt,hc,hr⟩:=zF h1
   have hlt':(k:Int)<s.procs.l.length:=by omega
   have hw:IntKind.wrap .i64 ((k:Int)+1)=(k:Int)+1:=by rw[zQ]<;>omega
   have hfp:=hf p (List.mem_of_getElem? hc)
   simp only[List.map_cons,List.sum_cons]
   rw[zp]
   by_cases hn:n≤300
   .have hn':(n:Int)≤300:=by omega
    obtain⟨w,e1,hw2⟩:=e105 (300 - n) (by omega) p.body hfp.1 hfp.2.1
    have hws:IntKind.wrap .i64 (300 - (n:Int))=((300 - n:Nat):Int):=by rw[zQ]<;>omega
    have hwb:n+w≤704:=by unfold Rb at hw2;omega
    have hwa:IntKind.wrap .i64 ((n:Int)+w)=((n+w:Nat):Int):=by rw[zQ]<;>omega
    have hR2:Rb 704 300 (n+w) (T+p.cost):=by unfold Pr.cost Rb at *;omega
    have hJ:=ihr (k+1) (n+w) (T+p.cost) (H++[.arr 0 5 false [p.av]]) hr (by omega) hR2
    simp only[Int.natCast_add,Int.cast_ofNat_Int]at hJ
    simp[zhq,zlk,zd,hlt,hlt',hc,hw,hn',hws,e1,hwa,zg, -getElem?_pos,gEz]
    simpa[Nat.add_assoc]using hJ
   .have hn':¬(n:Int)≤300:=by omega
    have hR2:Rb 704 300 n (T+p.cost):=by unfold Rb at *;omega
    have hJ:=ihr (k+1) n (T+p.cost) (H++[.arr 0 5 false [p.av]]) hr (by omega) hR2
    simp only[Int.natCast_add,Int.cast_ofNat_Int]at hJ
    simp[zhq,zlk,zd,hlt,hlt',hc,hw,hn',zg, -getElem?_pos,gEz]
    simpa[Nat.add_assoc]using hJ
 obtain⟨y,F,H',e1,rfl,n,e2,e3⟩:=zr.1 (key s.procs.l 0 0 0 [.arr 0 2 false [s.av]] rfl (by omega) (.inl ⟨by omega,rfl⟩))
 simp only[Int.natCast_zero,Nat.zero_add]at e1 e3
 generalize (s.procs.l.map Pr.cost).sum=T at *
 by_cases h:n≤301
 .have hm:min T 301=n:=by unfold Rb at e3;omega
  have h':¬(301:Int)<n:=by omega
  rw[hm]
  simp[fi28,c28,zi,ze,zd,resV,rvVs,rvV,e1,e2,h']
 .have hm:min T 301=301:=by unfold Rb at e3;omega
  have h':(301:Int)<n:=by omega
  rw[hm]
  simp[fi28,c28,zi,ze,zd,resV,rvVs,rvV,e1,e2,h']
end Go.Proofs.YtgamobngbenehaaGreatDoor
end
section
namespace Go.Proofs.YtgamobngbenehaaGreatDoor
open Go Go.RowKit
set_option linter.unusedVariables false
set_option linter.unusedSimpArgs false
set_option maxRecDepth 10000
mutual
def St.dep:St→Nat| .mk _ _ _ _ _ _ _ bl _ _ el _ _ cl=>1+max (St.deps bl) (max (St.deps el) (Cs.deps cl))
def St.deps:List St→Nat| []=>0|x::r=>max x.dep (St.deps r)
def Cs.dep:Cs→Nat| .mk _ _ _ _ _ _ bl=>St.deps bl
def Cs.deps:List Cs→Nat| []=>0|x::r=>max x.dep (Cs.deps r)
end
theorem St.dep_eq (x:St):x.dep=1+max (St.deps x.body.l) (max (St.deps x.els.l) (Cs.deps x.cs.l)):=by cases x;simp only[St.dep];rfl
theorem Cs.dep_eq (x:Cs):x.dep=St.deps x.body.l:=by cases x;simp only[Cs.dep];rfl
theorem St.any_deps (d:Nat) (hd:d≤12):∀l:List St,l.any (fun x=>decide (12<d+x.dep))=decide (12<d+St.deps l)
 | []=>by
  have h:¬12<d+St.deps []:=by simp only[St.deps];omega
  rw[decide_eq_false h];rfl
 |x::r=>by
  have h0:(12<d+max x.dep (St.deps r))↔(12<d+x.dep∨12<d+St.deps r):=by omega
  simp only[List.any_cons,St.deps,St.any_deps d hd r,h0]
  by_cases h1:12<d+x.dep<;>by_cases h2:12<d+St.deps r<;>simp[h1,h2]
theorem Cs.any_deps (d:Nat) (hd:d≤12):∀l:List Cs,l.any (fun x=>decide (12<d+x.dep))=decide (12<d+Cs.deps l)
 | []=>by
  have h:¬12<d+Cs.deps []:=by simp only[Cs.deps];omega
  rw[decide_eq_false h];rfl
 |x::r=>by
  have h0:(12<d+max x.dep (Cs.deps r))↔(12<d+x.dep∨12<d+Cs.deps r):=by omega
  simp only[List.any_cons,Cs.deps,Cs.any_deps d hd r,h0]
  by_cases h1:12<d+x.dep<;>by_cases h2:12<d+Cs.deps r<;>simp[h1,h2]
def zlB (d:Nat):Prop:=∀l:Sl St,St.fines l.l→l.l.length≤9223372036854775807→W.pure 47 [Sl.av St.av 8 l,I (d+1:Nat)]=some (.bool (decide (12<d+St.deps l.l)))
theorem zpw (c:Cs) (hf:c.fine) (d:Nat) (hd:d≤12) (ih:zlB d) (id:Nat) (H:Heap) (h:H[id]?=some (.arr 0 1 false [I d])):
  W.call (.clo 99 [] [.optr id 0 0 0]) [c.av] H=some (.bool (decide (12<d+c.dep)),H++[.arr 0 9 false [c.av]]):=by
 rw[zL Φ99,Cs.dep_eq]
 rw[Cs.fine_eq]at hf
 have e1:=ih c.body hf.2.2 hf.2.1
 have p1:∀B,(H++[B])[id]?=some (.arr 0 1 false [I d]):=zw h
 have hw:=zaa (k:=d) (by omega)
 simp only[Int.natCast_add,Int.cast_ofNat_Int]at e1
 simp[fi99,c99,zi,ze,zd,resV,rvVs,rvV,p1,hw,e1,zg, -getElem?_pos,gEz]
theorem zpx (x:St) (hf:x.fine) (d:Nat) (hd0:1≤d) (hd:d≤12) (ih:zlB d) (id:Nat) (H:Heap) (h:H[id]?=some (.arr 0 1 false [I d])):
  okV (W.call (.clo 98 [] [.optr id 0 0 0]) [x.av] H) (fun v H'=>v= .bool (decide (12<d - 1+x.dep))∧Kept none H H'):=by
 rw[zL Φ98,St.dep_eq]
 rw[St.fine_eq]at hf
 have e1:=ih x.body hf.2.2.2.2.2.1 hf.2.2.1
 have e2:=ih x.els hf.2.2.2.2.2.2.1 hf.2.2.2.1
 have p1:∀B,(H++[B])[id]?=some (.arr 0 1 false [I d]):=zw h
 have hw:=zaa (k:=d) (by omega)
 obtain⟨v,H',c1,rfl,c2⟩:=zz.1 (zii x.cs (by omega) (.clo 99 [] [.optr id 0 0 0]) rfl (fun c=>decide (12<d+c.dep)) (H++[.arr 0 8 false [x.av]]) (fun a ha G hk=>by
  rw[zpw a (Cs.fines_mem hf.2.2.2.2.2.2.2 ha) d hd ih id G (hk.get (by simp) (p1 _))]
  exact⟨rfl,Kept.append _ _ _⟩))
 rw[Cs.any_deps d hd]at c1
 have k1:Kept none H (H++[.arr 0 8 false [x.av]]):=Kept.append _ _ _
 have k2:=k1.trans c2
 simp only[Int.natCast_add,Int.cast_ofNat_Int]at e1 e2
 by_cases h1:12<d+St.deps x.body.l
 .have h0:12<d - 1+(1+max (St.deps x.body.l) (max (St.deps x.els.l) (Cs.deps x.cs.l))):=by omega
  simp only[h1,decide_true]at e1
  simp[fi98,c98,zi,ze,zd,resV,rvVs,rvV,p1,hw,e1,h0,k1,zg, -getElem?_pos,gEz]
 by_cases h2:12<d+St.deps x.els.l
 .have h0:12<d - 1+(1+max (St.deps x.body.l) (max (St.deps x.els.l) (Cs.deps x.cs.l))):=by omega
  simp only[h1,decide_false]at e1
  simp only[h2,decide_true]at e2
  simp[fi98,c98,zi,ze,zd,resV,rvVs,rvV,p1,hw,e1,e2,h0,k1,zg, -getElem?_pos,gEz]
 simp only[h1,decide_false]at e1
 simp only[h2,decide_false]at e2
 by_cases h3:12<d+Cs.deps x.cs.l
 .have h0:12<d - 1+(1+max (St.deps x.body.l) (max (St.deps x.els.l) (Cs.deps x.cs.l))):=by omega
  simp only[h3,decide_true]at c1
  simp[fi98,c98,zi,ze,zd,resV,rvVs,rvV,p1,hw,e1,e2,c1,h0,k2,zg, -getElem?_pos,gEz]
 .have h0:¬12<d - 1+(1+max (St.deps x.body.l) (max (St.deps x.els.l) (Cs.deps x.cs.l))):=by omega
  simp only[h3,decide_false]at c1
  simp[fi98,c98,zi,ze,zd,resV,rvVs,rvV,p1,hw,e1,e2,c1,h0,k2,zg, -getElem?_pos,gEz]
theorem e72:∀(m d:Nat),d+m=12→zlB d:=by
 intro m
 induction m with
 |zero=>
  intro d hd l hf hl
  have:d=12:=by omega
  subst this
  rw[zG Φ47 rfl]
  by_cases h:l.l=[]
  .simp[fi47,c47,zi,ze,zd,resV,rvVs,rvV,h,St.deps]
  .have hp:1≤St.deps l.l:=by
    cases hl2:l.l with
    |nil=>exact absurd hl2 h
    |cons x r=>have:=x.dep_eq;simp only[St.deps];omega
   have hd2:12<12+St.deps l.l:=by omega
   rw[decide_eq_true hd2]
   simp[fi47,c47,zi,ze,zd,resV,rvVs,rvV,h]
 |succ m ihm=>
  intro d hd l hf hl
  rw[zG Φ47 rfl]
  by_cases h:l.l=[]
  .have:¬12<d:=by omega
   simp[fi47,c47,zi,ze,zd,resV,rvVs,rvV,h,St.deps,this]
  have ih:=ihm (d+1) (by omega)
  have hd11:d+1≤12:=by omega
  have hn:¬(12:Int)<(d:Int)+1:=by omega
  obtain⟨v,H',c1,rfl,c2⟩:=zz.1 (zq8 l (by omega) (.clo 98 [] [.optr 0 0 0 0]) rfl (fun x=>decide (12<(d+1) - 1+x.dep)) [.arr 0 1 false [I (d+1:Nat)]] (fun a ha G hk=>zpx a (St.fines_mem hf ha) (d+1) (by omega) hd11 ih 0 G (hk.get (by simp) rfl)))
  simp only[Nat.add_sub_cancel]at c1
  rw[St.any_deps d (by omega)]at c1
  simp only[Int.natCast_add,Int.cast_ofNat_Int]at c1⊢
  simp[fi47,c47,zi,ze,zd,resV,rvVs,rvV,h,hn,c1]
end Go.Proofs.YtgamobngbenehaaGreatDoor
end
section
namespace Go.Proofs.YtgamobngbenehaaGreatDoor
open Go Go.RowKit
set_option linter.unusedVariables false
set_option linter.unusedSimpArgs false
set_option maxRecDepth 10000
mutual
def St.pre:St→List St| .mk a b c d e f g bl h i el j k cl=> .mk a b c d e f g bl h i el j k cl::(St.pres bl++(St.pres el++Cs.pres cl))
def St.pres:List St→List St| []=> []|x::r=>x.pre++St.pres r
def Cs.pre:Cs→List St| .mk _ _ _ _ _ _ bl=>St.pres bl
def Cs.pres:List Cs→List St| []=> []|x::r=>x.pre++Cs.pres r
end
theorem St.pre_eq (x:St):x.pre=x::(St.pres x.body.l++(St.pres x.els.l++Cs.pres x.cs.l)):=by cases x;simp only[St.pre];rfl
theorem Cs.pre_eq (x:Cs):x.pre=St.pres x.body.l:=by cases x;simp only[Cs.pre];rfl
structure KOk {σ:Type} (P:σ→Heap→Prop) (Kp:Heap→Heap→Prop):Prop where
 refl:∀H,Kp H H
 trans:∀A B C,Kp A B→Kp B C→Kp A C
 app:∀s H B,P s H→Kp H (H++[B])
 box:∀s H H' es,P s H→Kp (H++[.arr 0 8 false es]) H'→H'[H.length]?=some (.arr 0 8 false es)
def zfK {σ ρ:Type} (Kp:Heap→Heap→Prop) (P:σ→Heap→Prop) (Q:ρ→Heap→Prop) (y:σ⊕ρ) (H:Heap) (v:AV) (H':Heap):Prop:=
 Kp H H'∧match y with| .inl s=>v= .bool true∧P s H'| .inr r=>v= .bool false∧Q r H'
def zpE {σ ρ:Type} (i j:Nat) (P:σ→Heap→Prop) (Q:ρ→Heap→Prop) (G:σ→Prop) (Kp:Heap→Heap→Prop) (step:St→σ→σ⊕ρ) (l:Sl St):Prop:=
 ∀s H,runG G step (St.pres l.l) s→P s H→okV (W.call (.clo 118 [] [.optr i 0 0 0,.optr j 0 0 0]) [Sl.av St.av 8 l] H) (zfK Kp P Q (runS step (St.pres l.l) s) H)
set_option maxHeartbeats 2000000 in
theorem zj0 {σ ρ:Type} (l:Sl St) (m:Nat) (x:St) (hx:x.cs.l.length≤9223372036854775807) (y:AV) (hy:okO y=some y) (i j:Nat) (P:σ→Heap→Prop) (Q:ρ→Heap→Prop) (G:σ→Prop) (Kp:Heap→Heap→Prop) (step:St→σ→σ⊕ρ) (hP:∀s H B,P s H→P s (H++[B])) (hK:KOk P Kp)
  (hc:∀s H,P s H→H[i]?=some (.arr 0 1 false [y])∧H[j]?=some (.arr 0 1 false [.clo 118 [] [.optr i 0 0 0,.optr j 0 0 0]]))
  (ih:∀c∈x.cs.l,zpE i j P Q G Kp step c.body):
  ∀(r:List Cs) (k:Nat) (s:σ) (H:Heap),x.cs.l.drop k=r→k≤x.cs.l.length→runG G step (Cs.pres r) s→P s H→
  okC (W.loop [1,2,9,10,11,34,35,36] zkj [(1,.optr i 0 0 0),(2,.optr j 0 0 0),(9,Sl.av St.av 8 l),(10,I l.l.length),(11,I m),(34,Sl.av Cs.av 9 x.cs),(35,I x.cs.l.length),(36,I k)] H)
   (fun e F' H'=>Kp H H'∧match runS step (Cs.pres r) s with| .inl s'=>e= .exit 2∧F'.keep [1,2,9,10,11]=[(1,.optr i 0 0 0),(2,.optr j 0 0 0),(9,Sl.av St.av 8 l),(10,I l.l.length),(11,I m)]∧P s' H'| .inr z=>e= .ret∧F'.get 4= .bool false∧Q z H'):=by
 intro r
 induction r with
 |nil=>
  intro k s H h1 h2 hg hp
  have hk:=zn h1 h2
  rw[zp]
  simp[zfy,zgU,zd,hk,Cs.pres,runS,hp]
  exact hK.refl _
 |cons c r ihr=>
  intro k s H h1 h2 hg hp
  obtain⟨hlt,ha,hr⟩:=zF h1
  have hlt':(k:Int)<x.cs.l.length:=by omega
  have hw:IntKind.wrap .i64 ((k:Int)+1)=(k:Int)+1:=by rw[zQ]<;>omega
  have hcs:=hc s H hp
  have p1:∀B,(H++[B])[j]?=some (.arr 0 1 false [.clo 118 [] [.optr i 0 0 0,.optr j 0 0 0]]):=zw hcs.2
  simp only[Cs.pres,Cs.pre_eq,zcz]at hg
  obtain⟨hg1,hg2⟩:=hg
  have e1:=ih c (List.mem_of_getElem? ha) s (H++[.arr 0 9 false [c.av]]) hg1 (hP _ _ _ hp)
  obtain⟨v,H1,c1,c2,c3⟩:=zz.1 e1
  rw[zp]
  simp only[Cs.pres,Cs.pre_eq,zbF]
  cases hrun:runS step (St.pres c.body.l) s with
  |inr z=>
   rw[hrun]at c3
   obtain⟨rfl,c4⟩:=c3
   simp[zfy,zgU,zd,hlt,hlt',ha,p1,c1,zg, -getElem?_pos,gEz]
   exact⟨hK.trans _ _ _ (hK.app _ _ _ hp) c2,c4⟩
  |inl s'=>
   rw[hrun]at c3 hg2
   obtain⟨rfl,c4⟩:=c3
   have hJ:=ihr (k+1) s' H1 hr (by omega) hg2 c4
   simp only[Int.natCast_add,Int.cast_ofNat_Int]at hJ
   obtain⟨e,F',H',g1,g2,g3⟩:=zr.1 hJ
   simp[zfy,zgU,zd,hlt,hlt',ha,p1,c1,hw,g1,zg, -getElem?_pos,gEz]
   refine⟨hK.trans _ _ _ (hK.trans _ _ _ (hK.app _ _ _ hp) c2) g2,?_⟩
   simpa using g3
set_option maxHeartbeats 8000000 in
theorem zjZ {σ ρ:Type} (l:Sl St) (hl:l.l.length≤9223372036854775807) (hf:St.fines l.l) (y:AV) (hy:okO y=some y) (hyc:zk false 1 y.cells=y) (i j:Nat) (P:σ→Heap→Prop) (Q:ρ→Heap→Prop) (G:σ→Prop) (Kp:Heap→Heap→Prop) (step:St→σ→σ⊕ρ) (hP:∀s H B,P s H→P s (H++[B])) (hK:KOk P Kp)
  (hc:∀s H,P s H→H[i]?=some (.arr 0 1 false [y])∧H[j]?=some (.arr 0 1 false [.clo 118 [] [.optr i 0 0 0,.optr j 0 0 0]]))
  (hstep:∀x s H,x.fine→G s→P s H→okV (W.call y [x.av] H) (zfK Kp P Q (step x s) H))
  (ih:∀v:Sl St,St.bigs v.l<St.bigs l.l→St.fines v.l→v.l.length≤9223372036854775807→zpE i j P Q G Kp step v):
  ∀(r:List St) (k:Nat) (s:σ) (H:Heap),l.l.drop k=r→k≤l.l.length→runG G step (St.pres r) s→P s H→
  okC (W.loop [1,2,9,10,11] zki [(1,.optr i 0 0 0),(2,.optr j 0 0 0),(9,Sl.av St.av 8 l),(10,I l.l.length),(11,I k)] H)
   (fun e F' H'=>Kp H H'∧match runS step (St.pres r) s with| .inl s'=>e= .exit 0∧P s' H'| .inr z=>e= .ret∧F'.get 4= .bool false∧Q z H'):=by
 intro r
 induction r with
 |nil=>
  intro k s H h1 h2 hg hp
  have hk:=zn h1 h2
  rw[zp]
  simp[zco,zdw,zd,hk,St.pres,runS,hp]
  exact hK.refl _
 |cons x r ihr=>
  intro k s H h1 h2 hg hp
  obtain⟨hlt,ha,hr⟩:=zF h1
  have hlt':(k:Int)<l.l.length:=by omega
  have hw:IntKind.wrap .i64 ((k:Int)+1)=(k:Int)+1:=by rw[zQ]<;>omega
  have hmem:x∈l.l:=List.mem_of_getElem? ha
  have hfx:=St.fines_mem hf hmem
  have hfine:=hfx
  simp only[St.pres,St.pre_eq,List.cons_append,List.append_assoc,runG,zcz]at hg
  obtain⟨hg0,hg⟩:=hg
  rw[St.fine_eq]at hfx
  have hbig:=St.bigs_mem hmem
  rw[St.big_eq]at hbig
  have hp1:=hP _ _ (Blk.arr 0 8 false [x.av]) hp
  have q1:=(hc _ _ hp1).1
  obtain⟨v1,H1,c1,c2,c3⟩:=zz.1 (hstep x s _ hfine hg0 hp1)
  have b1:H1[H.length]?=some (.arr 0 8 false [x.av]):=hK.box s H H1 [x.av] hp c2
  have k1:=hK.trans _ _ _ (hK.app s H (.arr 0 8 false [x.av]) hp) c2
  rw[zp]
  simp only[St.pres,St.pre_eq,List.cons_append,List.append_assoc,runS,zbF]
  cases hst:step x s with
  |inr z=>
   rw[hst]at c3
   obtain⟨rfl,c4⟩:=c3
   simp[zco,zdw,zd,hlt,hlt',ha,hw,q1,hy,hyc,c1,zg, -getElem?_pos,gEz]
   exact⟨k1,c4⟩
  |inl s1=>
  rw[hst]at c3 hg
  obtain⟨hg1,hg⟩:=hg
  obtain⟨rfl,c4⟩:=c3
  have q2:=(hc _ _ c4).2
  obtain⟨v2,H2,d1,d2,d3⟩:=zz.1 (ih x.body (by omega) hfx.2.2.2.2.2.1 hfx.2.2.1 s1 H1 hg1 c4)
  have b2:H2[H.length]?=some (.arr 0 8 false [x.av]):=hK.box s H H2 [x.av] hp (hK.trans _ _ _ c2 d2)
  have k2:=hK.trans _ _ _ k1 d2
  simp only
  cases hrb:runS step (St.pres x.body.l) s1 with
  |inr z=>
   rw[hrb]at d3
   obtain⟨rfl,d4⟩:=d3
   simp[zco,zdw,zd,hlt,hlt',ha,hw,q1,hy,hyc,c1,b1,q2,d1,zg, -getElem?_pos,gEz]
   exact⟨k2,d4⟩
  |inl s2=>
  rw[hrb]at d3 hg
  obtain⟨hg2,hg⟩:=hg
  obtain⟨rfl,d4⟩:=d3
  have q3:=(hc _ _ d4).2
  obtain⟨v3,H3,e1,e2,e3⟩:=zz.1 (ih x.els (by omega) hfx.2.2.2.2.2.2.1 hfx.2.2.2.1 s2 H2 hg2 d4)
  have b3:H3[H.length]?=some (.arr 0 8 false [x.av]):=hK.box s H H3 [x.av] hp (hK.trans _ _ _ (hK.trans _ _ _ c2 d2) e2)
  have k3:=hK.trans _ _ _ k2 e2
  simp only
  cases hre:runS step (St.pres x.els.l) s2 with
  |inr z=>
   rw[hre]at e3
   obtain⟨rfl,e4⟩:=e3
   simp[zco,zdw,zd,hlt,hlt',ha,hw,q1,hy,hyc,c1,b1,q2,d1,b2,q3,e1,zg, -getElem?_pos,gEz]
   exact⟨k3,e4⟩
  |inl s3=>
  rw[hre]at e3 hg
  obtain⟨hg3,hg⟩:=hg
  obtain⟨rfl,e4⟩:=e3
  have hL:=zj0 l k x hfx.2.2.2.2.1 y hy i j P Q G Kp step hP hK hc (fun c hc2=>by
   have h5:=Cs.bigs_mem hc2
   rw[Cs.big_eq]at h5
   have h6:=Cs.fines_mem hfx.2.2.2.2.2.2.2 hc2
   rw[Cs.fine_eq]at h6
   exact ih c.body (by omega) h6.2.2 h6.2.1) x.cs.l 0 s3 H3 rfl (by omega) hg3 e4
  simp only[Int.natCast_zero]at hL
  obtain⟨u,F4,H4,f1,f2,f3⟩:=zr.1 hL
  have k4:=hK.trans _ _ _ k3 f2
  simp only
  cases hrc:runS step (Cs.pres x.cs.l) s3 with
  |inr z=>
   rw[hrc]at f3
   obtain⟨rfl,f4,f5⟩:=f3
   simp[zco,zdw,zd,hlt,hlt',ha,hw,q1,hy,hyc,c1,b1,q2,d1,b2,q3,e1,b3,f1,f4,zg, -getElem?_pos,gEz]
   exact⟨k4,f5⟩
  |inl s4=>
  rw[hrc]at f3 hg
  obtain⟨rfl,f4,f5⟩:=f3
  have hJ:=ihr (k+1) s4 H4 hr (by omega) hg f5
  simp only[Int.natCast_add,Int.cast_ofNat_Int]at hJ
  obtain⟨w,F',H',g1,g2,g3⟩:=zr.1 hJ
  simp[zco,zdw,zd,hlt,hlt',ha,hw,q1,hy,hyc,c1,b1,q2,d1,b2,q3,e1,b3,f1,f4,g1,zg, -getElem?_pos,gEz]
  refine⟨hK.trans _ _ _ k4 g2,?_⟩
  simpa using g3
theorem zlE {σ ρ:Type} (y:AV) (hy:okO y=some y) (hyc:zk false 1 y.cells=y) (i j:Nat) (P:σ→Heap→Prop) (Q:ρ→Heap→Prop) (G:σ→Prop) (Kp:Heap→Heap→Prop) (step:St→σ→σ⊕ρ) (hP:∀s H B,P s H→P s (H++[B])) (hK:KOk P Kp)
  (hc:∀s H,P s H→H[i]?=some (.arr 0 1 false [y])∧H[j]?=some (.arr 0 1 false [.clo 118 [] [.optr i 0 0 0,.optr j 0 0 0]]))
  (hstep:∀x s H,x.fine→G s→P s H→okV (W.call y [x.av] H) (zfK Kp P Q (step x s) H)):
  ∀(n:Nat) (l:Sl St),St.bigs l.l≤n→St.fines l.l→l.l.length≤9223372036854775807→zpE i j P Q G Kp step l:=by
 intro n
 induction n using Nat.strongRecOn with
 |ind n ihn=>
  intro l hn hf hl s H hg hp
  rw[zL Φ118]
  have hL:=zjZ l hl hf y hy hyc i j P Q G Kp step hP hK hc hstep (fun v hv h1 h2=>ihn (St.bigs v.l) (by omega) v (Nat.le_refl _) h1 h2) l.l 0 s H rfl (by omega) hg hp
  simp only[Int.natCast_zero]at hL
  obtain⟨u,F',H',g1,g2,g3⟩:=zr.1 hL
  cases hr:runS step (St.pres l.l) s with
  |inl s'=>
   rw[hr]at g3
   obtain⟨rfl,g4⟩:=g3
   simp[zkN,c118,zi,ze,zd,resV,rvVs,rvV,g1]
   exact⟨g2,rfl,g4⟩
  |inr z=>
   rw[hr]at g3
   obtain⟨rfl,g4,g5⟩:=g3
   simp[zkN,c118,zi,ze,zd,resV,rvVs,rvV,g1,g4]
   exact⟨g2,rfl,g5⟩
end Go.Proofs.YtgamobngbenehaaGreatDoor
end
section
namespace Go.Proofs.YtgamobngbenehaaGreatDoor
open Go Go.RowKit
set_option linter.unusedVariables false
set_option linter.unusedSimpArgs false
set_option maxRecDepth 10000
theorem zp5 {σ ρ:Type} (y:AV) (hy:okO y=some y) (hy1:y.cells=[y]) (hy2:y.cell=true) (P:σ→Heap→Prop) (Q:ρ→Heap→Prop) (G:σ→Prop) (Kp:Heap→Heap→Prop) (step:St→σ→σ⊕ρ) (hP:∀s H B,P s H→P s (H++[B])) (hK:KOk P Kp) (n0:Nat)
  (hstep:∀x s H,x.fine→G s→P s H→okV (W.call y [x.av] H) (fun v H'=>zfK Kp P Q (step x s) H v H'∧∀(k:Nat) (es:List AV),n0≤k→H[k]?=some (.arr 0 1 false es)→H'[k]?=some (.arr 0 1 false es)))
  (l:Sl St) (hf:St.fines l.l) (hl:l.l.length≤9223372036854775807) (b:Nat) (s:σ) (H:Heap) (hb:H[b]?=some (.arr 0 1 false [Sl.av St.av 8 l])) (hn:n0≤H.length) (hg:runG G step (St.pres l.l) s) (hp:P s H):
  okV (W.call (.clo 117 [] [.optr b 0 0 0]) [y] H) (fun v H'=>v= .tuple []∧Kp H H'∧match runS step (St.pres l.l) s with| .inl s'=>P s' H'| .inr z=>Q z H'):=by
 rw[zL Φ117]
 have hyc:zk false 1 y.cells=y:=by rw[hy1];rfl
 have a1:∀B C,(H++[B,C])[H.length+1]?=some C:=fun B C=>zq7 H B C
 have a2:∀B C,(H++[B,C])[b]?=some (.arr 0 1 false [Sl.av St.av 8 l]):=zm6 hb
 have a3:∀B C D,(H++[B,C]).set (H.length+1) D=H++[B,D]:=zpy H
 have p1:P s (H++[Blk.arr 0 1 false [y]]++[Blk.arr 0 1 false [.clo 118 [] [.optr H.length 0 0 0,.optr (H.length+1) 0 0 0]]]):=hP _ _ _ (hP _ _ _ hp)
 have p2:(H++[Blk.arr 0 1 false [y]]++[Blk.arr 0 1 false [.clo 118 [] [.optr H.length 0 0 0,.optr (H.length+1) 0 0 0]]])[H.length]?=some (.arr 0 1 false [y]):=zw (zg _ _) _
 have p3:(H++[Blk.arr 0 1 false [y]]++[Blk.arr 0 1 false [.clo 118 [] [.optr H.length 0 0 0,.optr (H.length+1) 0 0 0]]])[H.length+1]?=some (.arr 0 1 false [.clo 118 [] [.optr H.length 0 0 0,.optr (H.length+1) 0 0 0]]):=by
  simp
 have hv:=zlE y hy hyc H.length (H.length+1) (fun s G=>P s G∧G[H.length]?=some (.arr 0 1 false [y])∧G[H.length+1]?=some (.arr 0 1 false [.clo 118 [] [.optr H.length 0 0 0,.optr (H.length+1) 0 0 0]])) Q G Kp step
  (by intro s G B h;exact⟨hP _ _ _ h.1,zw h.2.1 _,zw h.2.2 _⟩) ⟨hK.refl,hK.trans,fun s G B h=>hK.app s G B h.1,fun s G G' es h=>hK.box s G G' es h.1⟩ (by intro s G h;exact h.2)
  (by
   intro x s G hx hs h
   obtain⟨v,G',c1,c2,c3⟩:=zz.1 (hstep x s G hx hs h.1)
   rw[c1]
   refine zz.2 ⟨v,G',rfl,c2.1,?_⟩
   have c4:=c2.2
   cases hs:step x s with
   |inl s'=>
    rw[hs]at c4
    exact⟨c4.1,c4.2,c3 _ _ (by omega) h.2.1,c3 _ _ (by omega) h.2.2⟩
   |inr z=>
    rw[hs]at c4
    exact c4)
  _ l (Nat.le_refl _) hf hl s _ hg ⟨p1,p2,p3⟩
 obtain⟨v,H',c1,c2,c3⟩:=zz.1 hv
 have c5:AV.nilf.cells=[AV.nilf]:=rfl
 have c6:AV.nilf.cell=true:=rfl
 have c7:∀v:AV,v.cell=true→v.cells=[v]→zo [AV.nilf] 0 0 v=some [v]:=fun v h1 h2=>by simp[zo,h1,h2]
 have c8:=c7 (.clo 118 [] [.optr H.length 0 0 0,.optr (H.length+1) 0 0 0]) rfl rfl
 have k1:Kp H H':=hK.trans _ _ _ (hK.trans _ _ _ (hK.app _ _ _ hp) (hK.app _ _ _ (hP _ _ _ hp))) c2
 simp only[List.append_assoc,List.cons_append,List.nil_append]at c1
 have hvok:okO v=some v:=by
  cases hrun:runS step (St.pres l.l) s<;>rw[hrun]at c3<;>rw[c3.1]<;>rfl
 simp[zmI,c117,zi,ze,zd,resV,rvVs,rvV,hy,hy1,hy2,hb,c5,c6,c8,c1,hvok,a1,a2,a3,zg, -getElem?_pos,gEz]
 refine⟨k1,?_⟩
 cases hrun:runS step (St.pres l.l) s with
 |inl s'=>rw[hrun]at c3;exact c3.2.1
 |inr z=>rw[hrun]at c3;exact c3.2
end Go.Proofs.YtgamobngbenehaaGreatDoor
end
section
namespace Go.Proofs.YtgamobngbenehaaGreatDoor
open Go Go.RowKit
set_option linter.unusedVariables false
set_option linter.unusedSimpArgs false
set_option maxRecDepth 10000
def stEx (k:Int) (e:Ex):Int:=if k=14∧zau e=true then 0 else exI e
theorem zjX (x:St) (hl:x.exprs.l.length≤9223372036854775807):∀(r:List Ex) (k:Nat) (H:Heap),x.exprs.l.drop k=r→k≤x.exprs.l.length→H[0]?=some (.arr 0 8 false [x.av])→
  okC (W.loop [1,10,11,12] zkd [(1,.optr 0 0 0 0),(10,Sl.av Ex.av 5 x.exprs),(11,I x.exprs.l.length),(12,I k)] H)
   (fun y F' H'=>H'[0]?=some (.arr 0 8 false [x.av])∧((zY (stEx x.kind) r=0∧y= .exit 0∧F'.get 1= .optr 0 0 0 0)∨(zY (stEx x.kind) r≠0∧y= .ret∧F'.get 2=I (zY (stEx x.kind) r)))):=by
 intro r
 induction r with
 |nil=>
  intro k H h1 h2 h0
  have hk:=zn h1 h2
  rw[zp]
  simp[zcn,zdv,zd,hk,zY,h0]
 |cons a r ihr=>
  intro k H h1 h2 h0
  obtain⟨hlt,ha,hr⟩:=zF h1
  have hlt':(k:Int)<x.exprs.l.length:=by omega
  have hak:x.exprs.l[k]=a:=(gEs.1 ha).2
  have hw:IntKind.wrap .i64 ((k:Int)+1)=(k:Int)+1:=by rw[zQ]<;>omega
  have p0:∀B,(H++[B])[0]?=some (.arr 0 8 false [x.av]):=zw h0
  have hJ:=ihr (k+1) (H++[.arr 0 5 false [a.av]]) hr (by omega) (p0 _)
  simp only[Int.natCast_add,Int.cast_ofNat_Int]at hJ
  have c1:=e121 a
  have c2:=e190 a
  rw[zp]
  simp only[zY]
  by_cases hz:stEx x.kind a=0
  .rw[if_neg (by simpa using hz)]
   unfold stEx at hz
   by_cases h14:x.kind=14
   .cases hza:zau a with
    |true=>
     rw[hza]at c1
     simp[zcn,zdv,zd,hlt,hak,hw,p0,h14,c1,zg, -getElem?_pos,gEz,ha]
     rw[h14]at hJ
     simpa using hJ
    |false=>
     rw[hza]at c1 hz
     simp only[h14,true_and,Bool.false_eq_true,if_false]at hz
     rw[hz]at c2
     simp[zcn,zdv,zd,hlt,hak,hw,p0,h14,c1,c2,zg, -getElem?_pos,gEz,ha]
     rw[h14]at hJ
     simpa using hJ
   .simp only[h14,false_and,if_false]at hz
    rw[hz]at c2
    simp[zcn,zdv,zd,hlt,hak,hw,p0,h14,c2,zg, -getElem?_pos,gEz,ha]
    simpa using hJ
  .rw[if_pos (by simpa using hz)]
   have hz2:stEx x.kind a=exI a:=by
    unfold stEx at *
    split at hz
    .exact absurd rfl hz
    .rename_i h;rw[if_neg h]
   have hz3:¬(x.kind=14∧zau a=true):=by
    intro h;unfold stEx at hz;rw[if_pos h]at hz;exact hz rfl
   rw[hz2]at hz⊢
   by_cases h14:x.kind=14
   .have hza:zau a=false:=by
     cases h:zau a with
     |true=>exact absurd ⟨h14,h⟩ hz3
     |false=>rfl
    rw[hza]at c1
    simp[zcn,zdv,zd,hlt,hak,hw,p0,h14,c1,c2,hz,zg, -getElem?_pos,gEz,ha]
   .simp[zcn,zdv,zd,hlt,hak,hw,p0,h14,c2,hz,zg, -getElem?_pos,gEz,ha]
def csEx (c:Cs):Int:=if c.kind=1 then exI c.expr else 0
theorem zjY (x:St) (hl:x.cs.l.length≤9223372036854775807):∀(r:List Cs) (k:Nat) (H:Heap),x.cs.l.drop k=r→k≤x.cs.l.length→H[0]?=some (.arr 0 8 false [x.av])→
  okC (W.loop [1,30,31,32] zke [(1,.optr 0 0 0 0),(30,Sl.av Cs.av 9 x.cs),(31,I x.cs.l.length),(32,I k)] H)
   (fun y F' H'=>H'[0]?=some (.arr 0 8 false [x.av])∧((zY csEx r=0∧y= .exit 2∧F'.get 1= .optr 0 0 0 0)∨(zY csEx r≠0∧y= .ret∧F'.get 2=I (zY csEx r)))):=by
 intro r
 induction r with
 |nil=>
  intro k H h1 h2 h0
  have hk:=zn h1 h2
  rw[zp]
  simp[zdT,ze6,zd,hk,zY,h0]
 |cons a r ihr=>
  intro k H h1 h2 h0
  obtain⟨hlt,ha,hr⟩:=zF h1
  have hlt':(k:Int)<x.cs.l.length:=by omega
  have hak:x.cs.l[k]=a:=(gEs.1 ha).2
  have hw:IntKind.wrap .i64 ((k:Int)+1)=(k:Int)+1:=by rw[zQ]<;>omega
  have p0:∀B,(H++[B])[0]?=some (.arr 0 8 false [x.av]):=zw h0
  have hJ:=ihr (k+1) (H++[.arr 0 9 false [a.av]]) hr (by omega) (p0 _)
  simp only[Int.natCast_add,Int.cast_ofNat_Int]at hJ
  have c2:=e190 a.expr
  rw[zp]
  simp only[zY]
  by_cases h1:a.kind=1
  .have e:csEx a=exI a.expr:=by unfold csEx;rw[if_pos h1]
   rw[e]
   by_cases hz:exI a.expr=0
   .rw[if_neg (by simpa using hz)]
    rw[hz]at c2
    simp[zdT,ze6,zd,hlt,hak,hw,p0,h1,c2,zg, -getElem?_pos,gEz,ha]
    simpa using hJ
   .rw[if_pos (by simpa using hz)]
    simp[zdT,ze6,zd,hlt,hak,hw,p0,h1,c2,hz,zg, -getElem?_pos,gEz,ha]
  .have e:csEx a=0:=by unfold csEx;rw[if_neg h1]
   rw[e]
   simp[zdT,ze6,zd,hlt,hak,hw,p0,h1,zg, -getElem?_pos,gEz,ha]
   simpa using hJ
def exsI (x:St):Int:=if zY (stEx x.kind) x.exprs.l≠0 then zY (stEx x.kind) x.exprs.l else if zY csEx x.cs.l≠0 then zY csEx x.cs.l
 else if x.kind=23∧((x.exprs.l.head?).map Ex.kind)≠some 1 then 1 else 0
theorem e159 (x:St) (hl:x.exprs.l.length≤9223372036854775807) (hl2:x.cs.l.length≤9223372036854775807) (hb:x.kind=23→x.exprs.l≠[]):W.pure 153 [x.av]=some (I (exsI x)):=by
 rw[zG Φ153 (by simp)]
 obtain⟨y,F,H,d1,d2,d3⟩:=zr.1 (zjX x hl x.exprs.l 0 [.arr 0 8 false [x.av]] rfl (by omega) rfl)
 simp only[Int.natCast_zero]at d1
 unfold exsI
 rcases d3 with⟨d3,rfl,d4⟩|⟨d3,rfl,d4⟩
 .rw[if_neg (by simpa using d3)]
  obtain⟨y,F',H',f1,f2,f3⟩:=zr.1 (zjY x hl2 x.cs.l 0 H rfl (by omega) d2)
  simp only[Int.natCast_zero]at f1
  rcases f3 with⟨f3,rfl,f4⟩|⟨f3,rfl,f4⟩
  .rw[if_neg (by simpa using f3)]
   by_cases h23:x.kind=23
   .obtain⟨a,r,har⟩:∃a r,x.exprs.l=a::r:=by
     cases h:x.exprs.l with
     |nil=>exact absurd h (hb h23)
     |cons a r=>exact⟨a,r,rfl⟩
    have h0:x.exprs.l[0]?=some a:=by rw[har];rfl
    have hh:x.exprs.l.head?=some a:=by rw[har];rfl
    clear har
    by_cases ha:a.kind=1
    .simp[zgA,c153,zi,ze,zd,resV,rvVs,rvV,d1,d2,d4,f1,f2,f4,h23,h0,hh,ha, -getElem?_pos,gEz]
    .simp[zgA,c153,zi,ze,zd,resV,rvVs,rvV,d1,d2,d4,f1,f2,f4,h23,h0,hh,ha, -getElem?_pos,gEz]
   .simp[zgA,c153,zi,ze,zd,resV,rvVs,rvV,d1,d2,d4,f1,f2,f4,h23, -getElem?_pos,gEz]
  .rw[if_pos (by simpa using f3)]
   simp[zgA,c153,zi,ze,zd,resV,rvVs,rvV,d1,d2,d4,f1,f2,f4, -getElem?_pos,gEz]
 .rw[if_pos (by simpa using d3)]
  simp[zgA,c153,zi,ze,zd,resV,rvVs,rvV,d1,d2,d4, -getElem?_pos,gEz]
theorem zpt (c:Cs) (H:Heap):W.call (.clo 150 [] []) [c.av] H=some (.bool (!decide (1≤c.kind∧c.kind≤3)),H++[.arr 0 9 false [c.av]]):=by
 rw[zL Φ150]
 have e1:=e111 c.kind 1 3
 by_cases h1:1≤c.kind<;>by_cases h2:c.kind≤3<;>simp[h1,h2]at e1<;>simp[zmG,c150,zi,ze,zd,resV,rvVs,rvV,e1,h1,h2,zg, -getElem?_pos,gEz]
def defs (l:List Cs):Nat:=l.foldl (fun n c=>if c.kind=3 then n+1 else n) 0
theorem zn2 (x:St) (hl:x.cs.l.length≤9223372036854775807):
  ∀(r:List Cs) (k n:Nat) (H:Heap),x.cs.l.drop k=r→k≤x.cs.l.length→n≤k→H[0]?=some (.arr 0 8 false [x.av])→
  okC (W.loop [1,6,31,32,33] zkl [(1,.optr 0 0 0 0),(6,I n),(31,Sl.av Cs.av 9 x.cs),(32,I x.cs.l.length),(33,I k)] H)
   (fun y F' H'=>H'[0]?=some (.arr 0 8 false [x.av])∧y= .exit 0∧F'.get 1= .optr 0 0 0 0∧F'.get 6=I (r.foldl (fun n c=>if c.kind=3 then n+1 else n) n:Nat)):=by
 intro r
 induction r with
 |nil=>
  intro k n H h1 h2 h3 h4
  have hk:=zn h1 h2
  rw[zp]
  simp[zfz,zgV,zd,hk,h4]
 |cons a r ihr=>
  intro k n H h1 h2 h3 h4
  obtain⟨hlt,ha,hr⟩:=zF h1
  have hlt':(k:Int)<x.cs.l.length:=by omega
  have hak:x.cs.l[k]=a:=(gEs.1 ha).2
  have hw:IntKind.wrap .i64 ((k:Int)+1)=(k:Int)+1:=by rw[zQ]<;>omega
  have hw2:IntKind.wrap .i64 ((n:Int)+1)=(n:Int)+1:=by rw[zQ]<;>omega
  have p0:∀B,(H++[B])[0]?=some (.arr 0 8 false [x.av]):=zw h4
  rw[zp]
  by_cases h3':a.kind=3
  .have hJ:=ihr (k+1) (n+1) (H++[.arr 0 9 false [a.av]]) hr (by omega) (by omega) (p0 _)
   simp only[Int.natCast_add,Int.cast_ofNat_Int]at hJ
   simp[zfz,zgV,zd,hlt,hak,hw,hw2,p0,h3',zg, -getElem?_pos,gEz,ha]
   simpa using hJ
  .have hJ:=ihr (k+1) n (H++[.arr 0 9 false [a.av]]) hr (by omega) (by omega) (p0 _)
   simp only[Int.natCast_add,Int.cast_ofNat_Int]at hJ
   simp[zfz,zgV,zd,hlt,hak,hw,p0,h3',zg, -getElem?_pos,gEz,ha]
   simpa using hJ
def zaF (x:St):Int:=
 if (zD x.kind x.op).2=false∨(x.cs.l.all fun c=>decide (1≤c.kind∧c.kind≤3))=false then 8
 else if fldB x (zD x.kind x.op).1=false then 1
 else if namB x (zD x.kind x.op).1=false then 5
 else if 1<defs x.cs.l then 6
 else exsI x
theorem zShp:(.agg [I 0,I 0,I 0,I 0,I 0,.bool false,.bool false,.bool false,.bool false]:AV)=shZ.av:=rfl
theorem zky {x:St} (h:fldB x (zD x.kind x.op).1=true) (hk:x.kind=23):x.exprs.l≠[]:=by
 intro e
 have h1:(zD x.kind x.op).1=⟨0,0,0,2,2,false,false,false,false⟩:=by rw[hk];rfl
 rw[h1]at h
 simp[fldB,e]at h
theorem e113 (x:St) (hf:x.fine):W.pure 105 [x.av]=some (I (zaF x)):=by
 rw[zG Φ105 (by simp)]
 rw[St.fine_eq]at hf
 obtain⟨f1,f2,f3,f4,f5,f6,f7,f8⟩:=hf
 have c1:=e155 x
 obtain⟨v,H1,d1,rfl,d2⟩:=zz.1 (zii x.cs (by omega) (.clo 150 [] []) rfl (fun c=> !decide (1≤c.kind∧c.kind≤3)) [.arr 0 8 false [x.av],.arr 0 9 false [(zD x.kind x.op).1.av]]
  (fun a _ H _=>by rw[zpt];exact⟨rfl,Kept.append _ _ _⟩))
 rw[zen]at d1
 have g0:H1[0]?=some (.arr 0 8 false [x.av]):=d2.get (by simp) rfl
 have g1:H1[1]?=some (.arr 0 9 false [(zD x.kind x.op).1.av]):=d2.get (by simp) rfl
 have c2:=e157 x (zD x.kind x.op).1 f5
 have c3:=e158 x (zD x.kind x.op).1 (by omega) (by omega) (fun c hc=>by have:=Cs.fines_mem f8 hc;rw[Cs.fine_eq]at this;omega)
 obtain⟨y,F,H2,l1,l2,rfl,l3,l4⟩:=zr.1 (zn2 x f5 x.cs.l 0 0 H1 rfl (by omega) (by omega) g0)
 have hdef:x.cs.l.foldl (fun n c=>if c.kind=3 then n+1 else n) 0=defs x.cs.l:=rfl
 rw[hdef]at l4
 simp only[Int.natCast_zero]at l1
 have hb:=@zky x
 unfold zaF
 generalize (zD x.kind x.op).2=b at *
 generalize (zD x.kind x.op).1=s at *
 generalize (x.cs.l.all fun c=>decide (1≤c.kind∧c.kind≤3))=q at *
 cases b with
 |false=>simp[zft,c105,zi,ze,zd,resV,rvVs,rvV,c1,d1, -getElem?_pos,gEz]
 |true=>
 cases q with
 |false=>simp[zft,c105,zi,ze,zd,resV,rvVs,rvV,c1,d1, -getElem?_pos,gEz]
 |true=>
 simp only[Bool.not_true]at d1
 cases hq:fldB x s with
 |false=>
  rw[hq]at c2
  simp[zft,c105,zi,ze,zd,resV,rvVs,rvV,c1,d1,g0,g1,c2, -getElem?_pos,gEz]
 |true=>
 rw[hq]at c2
 have c4:=e159 x f1 f5 (hb hq)
 cases hn:namB x s with
 |false=>
  rw[hn]at c3
  simp[zft,c105,zi,ze,zd,resV,rvVs,rvV,c1,d1,g0,g1,c2,c3, -getElem?_pos,gEz]
 |true=>
 rw[hn]at c3
 by_cases hd:1<defs x.cs.l
 .have hd':(1:Int)<(defs x.cs.l:Nat):=by omega
  simp[zft,c105,zi,ze,zd,resV,rvVs,rvV,c1,d1,g0,g1,c2,c3,l1,l2,l3,l4,hd,hd', -getElem?_pos,gEz]
 .have hd':¬(1:Int)<(defs x.cs.l:Nat):=by omega
  simp[zft,c105,zi,ze,zd,resV,rvVs,rvV,c1,d1,g0,g1,c2,c3,l1,l2,l3,l4,hd,hd',c4, -getElem?_pos,gEz]
end Go.Proofs.YtgamobngbenehaaGreatDoor
end
section
namespace Go.Proofs.YtgamobngbenehaaGreatDoor
open Go Go.RowKit
set_option linter.unusedVariables false
set_option linter.unusedSimpArgs false
set_option maxRecDepth 10000
def zcB (k:Int):Option (Int×Int×Int×Bool):=
 if k=101∨k=102 then some (-1099511627776,1099511627776,0,false)
 else if k=1∨k=2∨k=9 then some (0,0,0,false)
 else if k=3 then some (0,0,0,true)
 else if k=4 then some (0,1099511627776,1,false)
 else if k=5∨k=6∨k=7 then some (0,1099511627776,0,false)
 else if k=8 then some (0,1099511627776,1099511627776,false)
 else none
def zC (d:Dc):Int:=
 match zcB d.kind with
 |none=>8
 |some (lo,hi,b,two)=>
  if ((hi=0∧¬d.a=0)∨(b=0∧¬d.b=0))∨(two=false∧¬d.name2=[]) then 1
  else if zT d.name=false∨(two=true∧zT d.name2=false) then 5
  else if (d.a<lo∨hi<d.a)∨d.b<0∨b<d.b then 2
  else 0
theorem zpk (d:Dc) (h:d.kind=101):W.pure 48 [d.av]=some (I (zC d)):=by
 rw[zG Φ48 (by simp)]
 have c1:=e110 d.name
 have c2:=e110 d.name2
 have c3:=e111 d.a (-1099511627776) 1099511627776
 have c4:=e111 d.b 0 0
 have h0:zcB d.kind=some (-1099511627776,1099511627776,0,false):=by rw[h];rfl
 unfold zC
 rw[h0]
 have y:=eq_true h
 clear h
 simp[fi48,c48,zi,ze,zd,resV,rvVs,rvV,zV,y,c1,c2,c3,c4]
theorem zpj (d:Dc) (h:d.kind=102):W.pure 48 [d.av]=some (I (zC d)):=by
 rw[zG Φ48 (by simp)]
 have c1:=e110 d.name
 have c2:=e110 d.name2
 have c3:=e111 d.a (-1099511627776) 1099511627776
 have c4:=e111 d.b 0 0
 have h0:zcB d.kind=some (-1099511627776,1099511627776,0,false):=by rw[h];rfl
 unfold zC
 rw[h0]
 have y:=eq_true h
 have n0:¬d.kind=101:=by omega
 clear h
 simp[fi48,c48,zi,ze,zd,resV,rvVs,rvV,zV,y,n0,c1,c2,c3,c4]
theorem ztb (d:Dc) (h:d.kind=1):W.pure 48 [d.av]=some (I (zC d)):=by
 rw[zG Φ48 (by simp)]
 have c1:=e110 d.name
 have c2:=e110 d.name2
 have c3:=e111 d.a (0) 0
 have c4:=e111 d.b 0 0
 have h0:zcB d.kind=some (0,0,0,false):=by rw[h];rfl
 unfold zC
 rw[h0]
 have y:=eq_true h
 have n0:¬d.kind=101:=by omega
 have n1:¬d.kind=102:=by omega
 clear h
 simp[fi48,c48,zi,ze,zd,resV,rvVs,rvV,zV,y,n0,n1,c1,c2,c3,c4]
theorem zta (d:Dc) (h:d.kind=2):W.pure 48 [d.av]=some (I (zC d)):=by
 rw[zG Φ48 (by simp)]
 have c1:=e110 d.name
 have c2:=e110 d.name2
 have c3:=e111 d.a (0) 0
 have c4:=e111 d.b 0 0
 have h0:zcB d.kind=some (0,0,0,false):=by rw[h];rfl
 unfold zC
 rw[h0]
 have y:=eq_true h
 have n0:¬d.kind=101:=by omega
 have n1:¬d.kind=102:=by omega
 have n2:¬d.kind=1:=by omega
 clear h
 simp[fi48,c48,zi,ze,zd,resV,rvVs,rvV,zV,y,n0,n1,n2,c1,c2,c3,c4]
theorem zs3 (d:Dc) (h:d.kind=9):W.pure 48 [d.av]=some (I (zC d)):=by
 rw[zG Φ48 (by simp)]
 have c1:=e110 d.name
 have c2:=e110 d.name2
 have c3:=e111 d.a (0) 0
 have c4:=e111 d.b 0 0
 have h0:zcB d.kind=some (0,0,0,false):=by rw[h];rfl
 unfold zC
 rw[h0]
 have y:=eq_true h
 have n0:¬d.kind=101:=by omega
 have n1:¬d.kind=102:=by omega
 have n2:¬d.kind=1:=by omega
 have n3:¬d.kind=2:=by omega
 clear h
 simp[fi48,c48,zi,ze,zd,resV,rvVs,rvV,zV,y,n0,n1,n2,n3,c1,c2,c3,c4]
theorem zs9 (d:Dc) (h:d.kind=3):W.pure 48 [d.av]=some (I (zC d)):=by
 rw[zG Φ48 (by simp)]
 have c1:=e110 d.name
 have c2:=e110 d.name2
 have c3:=e111 d.a (0) 0
 have c4:=e111 d.b 0 0
 have h0:zcB d.kind=some (0,0,0,true):=by rw[h];rfl
 unfold zC
 rw[h0]
 have y:=eq_true h
 have n0:¬d.kind=101:=by omega
 have n1:¬d.kind=102:=by omega
 have n2:¬d.kind=1:=by omega
 have n3:¬d.kind=2:=by omega
 have n4:¬d.kind=9:=by omega
 clear h
 simp[fi48,c48,zi,ze,zd,resV,rvVs,rvV,zV,y,n0,n1,n2,n3,n4,c1,c2,c3,c4]
theorem zs8 (d:Dc) (h:d.kind=4):W.pure 48 [d.av]=some (I (zC d)):=by
 rw[zG Φ48 (by simp)]
 have c1:=e110 d.name
 have c2:=e110 d.name2
 have c3:=e111 d.a (0) 1099511627776
 have c4:=e111 d.b 0 1
 have h0:zcB d.kind=some (0,1099511627776,1,false):=by rw[h];rfl
 unfold zC
 rw[h0]
 have y:=eq_true h
 have n0:¬d.kind=101:=by omega
 have n1:¬d.kind=102:=by omega
 have n2:¬d.kind=1:=by omega
 have n3:¬d.kind=2:=by omega
 have n4:¬d.kind=9:=by omega
 have n5:¬d.kind=3:=by omega
 clear h
 simp[fi48,c48,zi,ze,zd,resV,rvVs,rvV,zV,y,n0,n1,n2,n3,n4,n5,c1,c2,c3,c4]
theorem zs7 (d:Dc) (h:d.kind=5):W.pure 48 [d.av]=some (I (zC d)):=by
 rw[zG Φ48 (by simp)]
 have c1:=e110 d.name
 have c2:=e110 d.name2
 have c3:=e111 d.a (0) 1099511627776
 have c4:=e111 d.b 0 0
 have h0:zcB d.kind=some (0,1099511627776,0,false):=by rw[h];rfl
 unfold zC
 rw[h0]
 have y:=eq_true h
 have n0:¬d.kind=101:=by omega
 have n1:¬d.kind=102:=by omega
 have n2:¬d.kind=1:=by omega
 have n3:¬d.kind=2:=by omega
 have n4:¬d.kind=9:=by omega
 have n5:¬d.kind=3:=by omega
 have n6:¬d.kind=4:=by omega
 clear h
 simp[fi48,c48,zi,ze,zd,resV,rvVs,rvV,zV,y,n0,n1,n2,n3,n4,n5,n6,c1,c2,c3,c4]
theorem zs6 (d:Dc) (h:d.kind=6):W.pure 48 [d.av]=some (I (zC d)):=by
 rw[zG Φ48 (by simp)]
 have c1:=e110 d.name
 have c2:=e110 d.name2
 have c3:=e111 d.a (0) 1099511627776
 have c4:=e111 d.b 0 0
 have h0:zcB d.kind=some (0,1099511627776,0,false):=by rw[h];rfl
 unfold zC
 rw[h0]
 have y:=eq_true h
 have n0:¬d.kind=101:=by omega
 have n1:¬d.kind=102:=by omega
 have n2:¬d.kind=1:=by omega
 have n3:¬d.kind=2:=by omega
 have n4:¬d.kind=9:=by omega
 have n5:¬d.kind=3:=by omega
 have n6:¬d.kind=4:=by omega
 have n7:¬d.kind=5:=by omega
 clear h
 simp[fi48,c48,zi,ze,zd,resV,rvVs,rvV,zV,y,n0,n1,n2,n3,n4,n5,n6,n7,c1,c2,c3,c4]
theorem zs5 (d:Dc) (h:d.kind=7):W.pure 48 [d.av]=some (I (zC d)):=by
 rw[zG Φ48 (by simp)]
 have c1:=e110 d.name
 have c2:=e110 d.name2
 have c3:=e111 d.a (0) 1099511627776
 have c4:=e111 d.b 0 0
 have h0:zcB d.kind=some (0,1099511627776,0,false):=by rw[h];rfl
 unfold zC
 rw[h0]
 have y:=eq_true h
 have n0:¬d.kind=101:=by omega
 have n1:¬d.kind=102:=by omega
 have n2:¬d.kind=1:=by omega
 have n3:¬d.kind=2:=by omega
 have n4:¬d.kind=9:=by omega
 have n5:¬d.kind=3:=by omega
 have n6:¬d.kind=4:=by omega
 have n7:¬d.kind=5:=by omega
 have n8:¬d.kind=6:=by omega
 clear h
 simp[fi48,c48,zi,ze,zd,resV,rvVs,rvV,zV,y,n0,n1,n2,n3,n4,n5,n6,n7,n8,c1,c2,c3,c4]
theorem zs4 (d:Dc) (h:d.kind=8):W.pure 48 [d.av]=some (I (zC d)):=by
 rw[zG Φ48 (by simp)]
 have c1:=e110 d.name
 have c2:=e110 d.name2
 have c3:=e111 d.a (0) 1099511627776
 have c4:=e111 d.b 0 1099511627776
 have h0:zcB d.kind=some (0,1099511627776,1099511627776,false):=by rw[h];rfl
 unfold zC
 rw[h0]
 have y:=eq_true h
 have n0:¬d.kind=101:=by omega
 have n1:¬d.kind=102:=by omega
 have n2:¬d.kind=1:=by omega
 have n3:¬d.kind=2:=by omega
 have n4:¬d.kind=9:=by omega
 have n5:¬d.kind=3:=by omega
 have n6:¬d.kind=4:=by omega
 have n7:¬d.kind=5:=by omega
 have n8:¬d.kind=6:=by omega
 have n9:¬d.kind=7:=by omega
 clear h
 simp[fi48,c48,zi,ze,zd,resV,rvVs,rvV,zV,y,n0,n1,n2,n3,n4,n5,n6,n7,n8,n9,c1,c2,c3,c4]
theorem e73 (d:Dc):W.pure 48 [d.av]=some (I (zC d)):=by
 by_cases h101:d.kind=101
 .exact zpk d h101
 by_cases h102:d.kind=102
 .exact zpj d h102
 by_cases h1:d.kind=1
 .exact ztb d h1
 by_cases h2:d.kind=2
 .exact zta d h2
 by_cases h9:d.kind=9
 .exact zs3 d h9
 by_cases h3:d.kind=3
 .exact zs9 d h3
 by_cases h4:d.kind=4
 .exact zs8 d h4
 by_cases h5:d.kind=5
 .exact zs7 d h5
 by_cases h6:d.kind=6
 .exact zs6 d h6
 by_cases h7:d.kind=7
 .exact zs5 d h7
 by_cases h8:d.kind=8
 .exact zs4 d h8
 rw[zG Φ48 (by simp)]
 have h0:zcB d.kind=none:=by
  unfold zcB
  rw[if_neg (by omega),if_neg (by omega),if_neg (by omega),if_neg (by omega),if_neg (by omega),if_neg (by omega)]
 unfold zC
 rw[h0]
 simp[fi48,c48,zi,ze,zd,resV,rvVs,rvV,h101,h102,h1,h2,h9,h3,h4,h5,h6,h7,h8]
end Go.Proofs.YtgamobngbenehaaGreatDoor
end
section
namespace Go.Proofs.YtgamobngbenehaaGreatDoor
open Go Go.RowKit
set_option linter.unusedVariables false
set_option linter.unusedSimpArgs false
set_option maxRecDepth 10000
theorem zfW {α σ ρ:Type} (step:α→σ→σ⊕ρ):∀(l:List α) (s:σ),runG (fun _=>True) step l s
 | [],s=>trivial
 |a::r,s=>⟨trivial,by cases step a s with|inl s'=>exact zfW step r s'|inr x=>trivial⟩
theorem zpv (s:List UInt8) (H:Heap):W.call (.clo 104 [] []) [.str s] H=some (.bool (!zT s),H):=by
 rw[zL Φ104]
 have e1:=e110 s
 cases h:zT s<;>rw[h]at e1<;>simp[zmK,c104,zi,ze,zd,resV,rvVs,rvV,e1]
def zav (p:Pr):Int:=
 if p.kind<1∨3<p.kind then 8
 else if zT p.name=false then 5
 else if 8<p.params.l.length then 4
 else if p.params.l.all zT=false then 5
 else if (p.priority<0∨9<p.priority)∨¬p.kind=1∧¬p.priority=0 then 2
 else zY zaF (St.pres p.body.l)
def K74 (st:LoopState) (pe:Option LX):Blk:= .loop st pe [(2,.optr 1 0 0 0)] [37] zjB zjA
def P74 (id:Nat) (_:Unit) (H:Heap):Prop:=H[id]?=some (K74 .ready none)∧H[1]?=some (.arr 0 1 false [I 0])
def Q74 (id:Nat) (c:Int) (H:Heap):Prop:=H[id]?=some (K74 .done (some .ret))∧H[1]?=some (.arr 0 1 false [I c])
theorem znN (id:Nat) (hid:1<id) (x:St) (hx:x.fine) (H:Heap) (h:P74 id () H):
  okV (W.call (.yld id) [x.av] H) (fun v H'=>zfK (zR 8) (P74 id) (Q74 id) (if zaF x≠0 then .inr (zaF x) else .inl ()) H v H'∧∀(k:Nat) (es:List AV),id+1≤k→H[k]?=some (.arr 0 1 false es)→H'[k]?=some (.arr 0 1 false es)):=by
 obtain⟨h1,h2⟩:=h
 have hl:=(gEs.1 h1).1
 rw[zpB,zca h1 rfl]
 have e1:=e113 x hx
 have a1:(H++[Blk.arr 0 8 false [x.av]])[id]?=some (K74 .ready none):=zw h1 _
 have a2:(H++[Blk.arr 0 8 false [x.av]])[H.length]?=some (.arr 0 8 false [x.av]):=zg _ _
 have a3:(H++[Blk.arr 0 8 false [x.av]])[1]?=some (.arr 0 1 false [I 0]):=zw h2 _
 have b1:∀B,((H++[Blk.arr 0 8 false [x.av]]).set id B)[id]?=some B:=fun B=>gEt (by simp;omega)
 have b2:∀B,((H++[Blk.arr 0 8 false [x.av]]).set id B)[H.length]?=some (.arr 0 8 false [x.av]):=fun B=>by rw[gEn (by omega)];exact a2
 have b3:∀B,((H++[Blk.arr 0 8 false [x.av]]).set id B)[1]?=some (.arr 0 1 false [I 0]):=fun B=>by rw[gEn (by omega)];exact a3
 have c1:∀B C,(((H++[Blk.arr 0 8 false [x.av]]).set id B).set 1 C)[id]?=some B:=fun B C=>by rw[gEn (by omega)];exact b1 B
 have k0:zR 8 H (H++[Blk.arr 0 8 false [x.av]]):=zR.append _ _ _
 have t1:∀(k:Nat) (B:Blk) (C:Blk),id+1≤k→H[k]?=some B→((H++[Blk.arr 0 8 false [x.av]]).set id C)[k]?=some B:=fun k B C hk hB=>by rw[gEn (by omega)];exact zw hB _
 have t2:∀(k:Nat) (B:Blk) (C D E:Blk),id+1≤k→H[k]?=some B→((((H++[Blk.arr 0 8 false [x.av]]).set id C).set 1 D).set id E)[k]?=some B:=fun k B C D E hk hB=>by
  rw[gEn (by omega),gEn (by omega)];exact t1 k B C hk hB
 simp only[K74]at *
 by_cases hz:zaF x=0
 .simp only[hz,ne_eq,not_true_eq_false,if_false]
  simp[zbt,zh6,zfc,zh5,zfb,zd,a1,a2,b1,b2,b3,e1,hz,zg, -getElem?_pos,gEz, -List.append_assoc]
  refine⟨⟨k0.trans (zR.set a1 (by intro es e;cases e)),rfl,gEt (by simp;omega),?_⟩,fun k es hk hB=>t1 k _ _ hk hB⟩
  rw[gEn (by omega)];exact a3
 .simp only[hz,ne_eq,not_false_eq_true,if_true]
  simp[zbt,zh6,zfc,zh5,zfb,zd,a1,a2,b1,b2,b3,c1,e1,hz,zg, -getElem?_pos,gEz, -List.append_assoc]
  refine⟨⟨?_,rfl,gEt (by simp;omega),?_⟩,fun k es hk hB=>t2 k _ _ _ _ hk hB⟩
  .refine (k0.trans (zR.set a1 (by intro es e;cases e))).trans ((zR.set (b3 _) (by intro es e;cases e)).trans (zR.set (c1 _ _) (by intro es e;cases e)))
  .rw[gEn (by omega),gEt (by simp;omega)]
theorem e74 (p:Pr) (hf:p.fine):W.pure 49 [p.av]=some (I (zav p)):=by
 rw[zG Φ49 (by simp)]
 obtain⟨f1,f2,f3⟩:=hf
 have c1:=e111 p.kind 1 3
 have c2:=e110 p.name
 have c3:=e111 p.priority 0 9
 obtain⟨v,H1,d1,rfl,d2⟩:=zz.1 (zm7 p.params (by omega) (.clo 104 [] []) rfl (fun s=> !zT s) [.arr 0 5 false [p.av],.arr 0 1 false [I 0]] (fun a _ H _=>by rw[zpv];exact⟨rfl,Kept.refl _ _⟩))
 rw[zen]at d1
 have g0:H1[0]?=some (.arr 0 5 false [p.av]):=d2.get (by simp) rfl
 have g1:H1[1]?=some (.arr 0 1 false [I 0]):=d2.get (by simp) rfl
 have hl1:2≤H1.length:=d2.1
 unfold zav
 by_cases z1:p.kind<1∨3<p.kind
 .have z1':¬(1≤p.kind∧p.kind≤3):=by omega
  rw[if_pos z1]
  rw[decide_eq_false z1']at c1
  simp[fi49,c49,zi,ze,zd,resV,rvVs,rvV,c1, -getElem?_pos,gEz]
 rw[if_neg z1]
 have z1':1≤p.kind∧p.kind≤3:=by omega
 rw[decide_eq_true z1']at c1
 clear z1 z1'
 cases z2:zT p.name with
 |false=>
  rw[z2]at c2
  simp[fi49,c49,zi,ze,zd,resV,rvVs,rvV,c1,c2, -getElem?_pos,gEz]
 |true=>
 rw[z2]at c2
 rw[if_neg (by simp)]
 by_cases z3:8<p.params.l.length
 .have z3':(8:Int)<p.params.l.length:=by omega
  rw[if_pos z3]
  simp[fi49,c49,zi,ze,zd,resV,rvVs,rvV,c1,c2,z3', -getElem?_pos,gEz]
 have z3':¬(8:Int)<p.params.l.length:=by omega
 rw[if_neg z3]
 clear z3
 cases z4:p.params.l.all zT with
 |false=>
  rw[z4]at d1
  simp only[Bool.not_false]at d1
  have hs1:∀B,(H1.set 1 B)[1]?=some B:=fun B=>gEt (by omega)
  simp[fi49,c49,zi,ze,zd,resV,rvVs,rvV,c1,c2,z3',d1,g0,g1,hs1, -getElem?_pos,gEz]
 |true=>
 rw[z4]at d1
 simp only[Bool.not_true]at d1
 rw[if_neg (by simp)]
 have hs1:∀B,(H1.set 1 B)[1]?=some B:=fun B=>gEt (by omega)
 by_cases z5:(p.priority<0∨9<p.priority)∨¬p.kind=1∧¬p.priority=0
 .rw[if_pos z5]
  simp[fi49,c49,zi,ze,zd,resV,rvVs,rvV,c1,c2,c3,z3',d1,g0,g1,hs1,z5, -getElem?_pos,gEz]
 rw[if_neg z5]
 have p1:=e78 p.body H1
 have q0:(H1++[Blk.arr 0 1 false [Sl.av St.av 8 p.body]]++[K74 .ready none])[H1.length]?=some (.arr 0 1 false [Sl.av St.av 8 p.body]):=by
  rw[List.append_assoc,List.getElem?_append_right (by omega)];simp
 have q1:(H1++[Blk.arr 0 1 false [Sl.av St.av 8 p.body]]++[K74 .ready none])[H1.length+1]?=some (K74 .ready none):=by
  rw[List.append_assoc,List.getElem?_append_right (by omega)];simp
 have q2:(H1++[Blk.arr 0 1 false [Sl.av St.av 8 p.body]]++[K74 .ready none])[1]?=some (.arr 0 1 false [I 0]):=zw (zw g1 _) _
 have hp:=zp5 (.yld (H1.length+1)) rfl rfl rfl (P74 (H1.length+1)) (Q74 (H1.length+1)) (fun _=>True) (zR 8) (fun x (_:Unit)=>if zaF x≠0 then .inr (zaF x) else .inl ())
  (by intro s H B h;exact⟨zw h.1 B,zw h.2 B⟩) ⟨zR.refl 8,fun _ _ _=>zR.trans,fun _ _ _ _=>zR.append _ _ _,fun _ H _ es _ h=>h.2 H.length es (zg _ _)⟩ (H1.length+2) (fun x s H hx _ h=>znN (H1.length+1) (by omega) x hx H h) p.body f1 f2 H1.length () _ q0 (by simp) (zfW _ _ _) ⟨q1,q2⟩
 obtain⟨v,H',e1,rfl,e2,e3⟩:=zz.1 hp
 rw[zhP]at e3
 have hlen':H1.length+1<H'.length:=by
  have:=e2.1;simp at this;omega
 simp only[K74]at e1 e3
 by_cases hz:zY zaF (St.pres p.body.l)=0
 .rw[if_pos hz]at e3
  obtain⟨e3,e4⟩:=e3
  simp only[K74]at e3
  have s1:∀B,(H'.set (H1.length+1) B)[1]?=some (.arr 0 1 false [I 0]):=fun B=>by rw[gEn (by omega)];exact e4
  have s2:∀B C,((H'.set (H1.length+1) B).set 1 C)[1]?=some C:=fun B C=>gEt (by simp;omega)
  simp[fi49,c49,zi,ze,zd,resV,rvVs,rvV,c1,c2,c3,z3',d1,g0,g1,hs1,z5,p1,e1,e3,zd4,s1,s2,hz, -getElem?_pos,gEz, -List.append_assoc]
 .rw[if_neg hz]at e3
  obtain⟨e3,e4⟩:=e3
  simp only[K74]at e3
  have s1:∀B,(H'.set (H1.length+1) B)[1]?=some (.arr 0 1 false [I (zY zaF (St.pres p.body.l))]):=fun B=>by rw[gEn (by omega)];exact e4
  simp[fi49,c49,zi,ze,zd,resV,rvVs,rvV,c1,c2,c3,z3',d1,g0,g1,hs1,z5,p1,e1,e3,zd4,s1,hz, -getElem?_pos,gEz, -List.append_assoc]
end Go.Proofs.YtgamobngbenehaaGreatDoor
end
section
namespace Go.Proofs.YtgamobngbenehaaGreatDoor
open Go Go.RowKit
set_option linter.unusedVariables false
set_option linter.unusedSimpArgs false
set_option maxRecDepth 10000
theorem zqY (p:Pr) (hf:p.fine) (H:Heap):W.call (.clo 46 [] []) [p.av] H=some (.bool (decide (12<St.deps p.body.l)),H++[.arr 0 5 false [p.av]]):=by
 rw[zL Φ46]
 have c1:=e72 12 0 rfl p.body hf.1 hf.2.1
 simp only[Nat.zero_add,Int.natCast_one]at c1
 simp[fi46,c46,zi,ze,zd,resV,rvVs,rvV,c1,zg, -getElem?_pos,gEz]
theorem zl8 (s:So) (hl:s.decls.l.length≤9223372036854775807):∀(r:List Dc) (k:Nat) (H:Heap),s.decls.l.drop k=r→k≤s.decls.l.length→H[0]?=some (.arr 0 2 false [s.av])→
  okC (W.loop [1,28,29,30] zok [(1,.optr 0 0 0 0),(28,Sl.av Dc.av 5 s.decls),(29,I s.decls.l.length),(30,I k)] H)
   (fun y F' H'=>H'[0]?=some (.arr 0 2 false [s.av])∧((zY zC r=0∧y= .exit 0∧F'.get 1= .optr 0 0 0 0)∨(zY zC r≠0∧y= .ret∧F'.get 2=I (zY zC r)))):=by
 intro r
 induction r with
 |nil=>
  intro k H h1 h2 h0
  have hk:=zn h1 h2
  rw[zp]
  simp[zhs,zlm,zd,hk,zY,h0]
 |cons a r ihr=>
  intro k H h1 h2 h0
  obtain⟨hlt,ha,hr⟩:=zF h1
  have hlt':(k:Int)<s.decls.l.length:=by omega
  have hak:s.decls.l[k]=a:=(gEs.1 ha).2
  have hw:IntKind.wrap .i64 ((k:Int)+1)=(k:Int)+1:=by rw[zQ]<;>omega
  have p0:∀B,(H++[B])[0]?=some (.arr 0 2 false [s.av]):=zw h0
  have hJ:=ihr (k+1) (H++[.arr 0 5 false [a.av]]) hr (by omega) (p0 _)
  simp only[Int.natCast_add,Int.cast_ofNat_Int]at hJ
  have c1:=e73 a
  rw[zp]
  simp only[zY]
  by_cases hz:zC a=0
  .rw[if_neg (by simpa using hz)]
   rw[hz]at c1
   simp[zhs,zlm,zd,hlt,hak,hw,p0,c1,zg, -getElem?_pos,gEz,ha]
   simpa using hJ
  .rw[if_pos (by simpa using hz)]
   simp[zhs,zlm,zd,hlt,hak,hw,p0,c1,hz,zg, -getElem?_pos,gEz,ha]
theorem zl9 (x:Sl Pr) (hl:x.l.length≤9223372036854775807) (hf:∀p∈x.l,p.fine):∀(r:List Pr) (k:Nat) (H:Heap),x.l.drop k=r→k≤x.l.length→
  okC (W.loop [41,42,43] zol [(41,Sl.av Pr.av 5 x),(42,I x.l.length),(43,I k)] H)
   (fun y F' H'=>(zY zav r=0∧y= .exit 2)∨(zY zav r≠0∧y= .ret∧F'.get 2=I (zY zav r))):=by
 intro r
 induction r with
 |nil=>
  intro k H h1 h2
  have hk:=zn h1 h2
  rw[zp]
  simp[zht,zln,zd,hk,zY]
 |cons a r ihr=>
  intro k H h1 h2
  obtain⟨hlt,ha,hr⟩:=zF h1
  have hlt':(k:Int)<x.l.length:=by omega
  have hak:x.l[k]=a:=(gEs.1 ha).2
  have hw:IntKind.wrap .i64 ((k:Int)+1)=(k:Int)+1:=by rw[zQ]<;>omega
  have hJ:=ihr (k+1) (H++[.arr 0 5 false [a.av]]) hr (by omega)
  simp only[Int.natCast_add,Int.cast_ofNat_Int]at hJ
  have c1:=e74 a (hf a (List.mem_of_getElem? ha))
  rw[zp]
  simp only[zY]
  by_cases hz:zav a=0
  .rw[if_neg (by simpa using hz)]
   rw[hz]at c1
   simp[zht,zln,zd,hlt,hak,hw,c1,zg, -getElem?_pos,gEz,ha]
   simpa using hJ
  .rw[if_pos (by simpa using hz)]
   simp[zht,zln,zd,hlt,hak,hw,c1,hz,zg, -getElem?_pos,gEz,ha]
def zaA (s:So):Int:=
 if (32<s.decls.l.length∨32<s.procs.l.length)∨300<(s.procs.l.map Pr.cost).sum then 4
 else if (s.procs.l.any fun p=>decide (12<St.deps p.body.l))=true then 22
 else if zY zC s.decls.l≠0 then zY zC s.decls.l
 else zY zav s.procs.l
def So.fine (s:So):Prop:=s.decls.l.length≤9223372036854775807∧s.procs.l.length≤9223372036854775807∧∀p∈s.procs.l,p.fine
theorem e26 (s:So) (hf:s.fine):W.pure 21 [s.av]=some (I (zaA s)):=by
 rw[zG Φ21 (by simp)]
 obtain⟨f1,f2,f3⟩:=hf
 have c1:=e70 s f2 f3
 unfold zaA
 by_cases z1:(32<s.decls.l.length∨32<s.procs.l.length)∨300<(s.procs.l.map Pr.cost).sum
 .rw[if_pos z1]
  by_cases z2:(32:Int)<s.decls.l.length
  .simp[fi21,c21,zi,ze,zd,resV,rvVs,rvV,z2, -getElem?_pos,gEz]
  .by_cases z3:(32:Int)<s.procs.l.length
   .simp[fi21,c21,zi,ze,zd,resV,rvVs,rvV,z2,z3, -getElem?_pos,gEz]
   .have hm:min (s.procs.l.map Pr.cost).sum 301=301:=by omega
    rw[hm]at c1
    simp[fi21,c21,zi,ze,zd,resV,rvVs,rvV,z2,z3,c1, -getElem?_pos,gEz]
 rw[if_neg z1]
 have z2:¬(32:Int)<s.decls.l.length:=by omega
 have z3:¬(32:Int)<s.procs.l.length:=by omega
 have hm:min (s.procs.l.map Pr.cost).sum 301=(s.procs.l.map Pr.cost).sum:=by omega
 rw[hm]at c1
 have z4:¬(300:Int)<((s.procs.l.map Pr.cost).sum:Nat):=by omega
 generalize (s.procs.l.map Pr.cost).sum=T at *
 clear z1 hm
 obtain⟨v,H1,d1,rfl,d2⟩:=zz.1 (ztd s.procs (by omega) (.clo 46 [] []) rfl (fun p=>decide (12<St.deps p.body.l)) [.arr 0 2 false [s.av]] (fun a ha H _=>by rw[zqY a (f3 a ha)];exact⟨rfl,Kept.append _ _ _⟩))
 have g0:H1[0]?=some (.arr 0 2 false [s.av]):=d2.get (by simp) rfl
 generalize (s.procs.l.any fun p=>decide (12<St.deps p.body.l))=q at *
 cases q with
 |true=>simp[fi21,c21,zi,ze,zd,resV,rvVs,rvV,z2,z3,z4,c1,d1, -getElem?_pos,gEz]
 |false=>
 rw[if_neg (by simp)]
 obtain⟨y,F,H2,l1,l2,l3⟩:=zr.1 (zl8 s f1 s.decls.l 0 H1 rfl (by omega) g0)
 simp only[Int.natCast_zero]at l1
 rcases l3 with⟨l3,rfl,l4⟩|⟨l3,rfl,l4⟩
 .rw[if_neg (by simpa using l3)]
  obtain⟨y,F',H3,m1,m2⟩:=zr.1 (zl9 s.procs f2 f3 s.procs.l 0 H2 rfl (by omega))
  simp only[Int.natCast_zero]at m1
  rcases m2 with⟨m2,rfl⟩|⟨m2,rfl,m3⟩
  .simp[fi21,c21,zi,ze,zd,resV,rvVs,rvV,z2,z3,z4,c1,d1,g0,l1,l2,l4,m1,m2, -getElem?_pos,gEz]
  .simp[fi21,c21,zi,ze,zd,resV,rvVs,rvV,z2,z3,z4,c1,d1,g0,l1,l2,l4,m1,m3, -getElem?_pos,gEz]
 .rw[if_pos (by simpa using l3)]
  simp[fi21,c21,zi,ze,zd,resV,rvVs,rvV,z2,z3,z4,c1,d1,g0,l1,l4, -getElem?_pos,gEz]
end Go.Proofs.YtgamobngbenehaaGreatDoor
end
