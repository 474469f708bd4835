/-
  The parts of an expression, given to a yield function that may only go on while something holds (conditions: none). expr.Names, and the check of an expression (conditions: none). expr.Names, whole, and the check of an expression (conditions: none).
-/
import Derived.Test.YtbddckhdbnmamaaGreatAAs
namespace Go.Proofs.YtbddckhdbnmamaaGreat
open Go Go.RowKit
set_option linter.unusedVariables false
set_option linter.unusedSimpArgs false
set_option maxRecDepth 10000
def runG {α σ ρ:Type} (G:σ→Prop) (step:α→σ→σ⊕ρ):List α→σ→Prop
 | [],_=>True
 |a::r,s=>G s∧match step a s with| .inl s'=>runG G step r s'| .inr _=>True
theorem zjp {α σ ρ:Type} (G:σ→Prop) (step:α→σ→σ⊕ρ) (l m:List α) (s:σ):
  runG G step (l++m) s↔runG G step l s∧(match runS step l s with| .inl s'=>runG G step m s'| .inr _=>True):=by
 induction l generalizing s with
 |nil=>simp[runG,runS]
 |cons a r ih=>
  simp only[List.cons_append,runG,runS]
  cases step a s with
  |inl s'=>simp only[ih s',and_assoc]
  |inr x=>simp
theorem zqF {σ ρ:Type} (e:Ex) (hs:e.size≤1000000000) (y:AV) (hy:okO y=some y) (P:σ→Heap→Prop) (Q:ρ→Heap→Prop) (G:σ→Prop) (step:Ex→σ→σ⊕ρ) (hP:∀s H B,P s H→P s (H++[B]))
  (ih:∀x∈e.args.l,∀s H,runG G step x.parts s→P s H→okV (W.call (.clo 231 [] []) [x.av,y] H) (zdj (α:=Ex) 5 P Q (runS step x.parts s) H)):
  ∀(r:List Ex) (k:Nat) (s:σ) (H:Heap),e.args.l.drop k=r→k≤e.args.l.length→runG G step (Ex.partss r) s→P s H→
  okC (W.loop [1,12,13,14] zkS [(1,y),(12,Sl.av Ex.av 5 e.args),(13,I e.args.l.length),(14,I k)] H)
   (fun x F' H'=>zan 5 H H'∧match runS step (Ex.partss r) s with| .inl s'=>x= .exit 0∧P s' H'| .inr z=>x= .ret∧F'.get 4= .bool false∧Q z H'):=by
 have hll:=Ex.len_sizes e.args.l
 rw[Ex.size_eq]at hs
 intro r
 induction r with
 |nil=>
  intro k s H h1 h2 hg hp
  have hk:=zf h1 h2
  rw[zb]
  simp[zde,zeG,hk,Ex.partss,runS,hp,hy]
  exact zan.refl _ _
 |cons a r ihr=>
  intro k s H h1 h2 hg hp
  obtain⟨hlt,ha,hr⟩:=zn h1
  have hlt':(k:Int)<e.args.l.length:=by omega
  have hak:e.args.l[k]=a:=(gEs.1 ha).2
  have hw:=zg (k:=k) (by omega)
  simp only[Ex.partss,zjp]at hg
  obtain⟨hg1,hg2⟩:=hg
  have e1:=ih a (zac h1) s (H++[.arr 0 5 false [a.av]]) hg1 (hP _ _ _ hp)
  obtain⟨v,H1,c1,c2,c3⟩:=zz.1 e1
  rw[zb]
  simp only[Ex.partss,zfi]
  cases hrun:runS step a.parts s with
  |inr z=>
   rw[hrun]at c3
   obtain⟨rfl,c4⟩:=c3
   simp[zde,zeG,hlt,hak,c1,hy]
   exact⟨(zan.append _ _ _).trans c2,c4⟩
  |inl s'=>
   rw[hrun]at c3 hg2
   obtain⟨rfl,c4⟩:=c3
   have hJ:=ihr (k+1) s' H1 hr (by omega) hg2 c4
   simp only[iNa,iCo]at hJ
   obtain⟨x,F',H',g1,g2,g3⟩:=zc.1 hJ
   simp[zde,zeG,hlt,hak,c1,hy,hw,g1]
   refine⟨((zan.append _ _ _).trans c2).trans g2,?_⟩
   simpa using g3
theorem zmW {σ ρ:Type} (y:AV) (hy:okO y=some y) (P:σ→Heap→Prop) (Q:ρ→Heap→Prop) (G:σ→Prop) (step:Ex→σ→σ⊕ρ) (hP:∀s H B,P s H→P s (H++[B]))
  (hstep:∀x s H,G s→P s H→okV (W.call y [x.av] H) (zdj (α:=Ex) 5 P Q (step x s) H)):
  ∀(e:Ex),e.size≤1000000000→∀(s:σ) (H:Heap),runG G step e.parts s→P s H→okV (W.call (.clo 231 [] []) [e.av,y] H) (zdj (α:=Ex) 5 P Q (runS step e.parts s) H):=by
 refine Ex.ind (fun e ih=>?_)
 intro hs s H hg hp
 rw[zj Φ231]
 rw[Ex.parts_eq]at hg⊢
 simp only[runS]
 simp only[runG]at hg
 obtain⟨hg1,hg2⟩:=hg
 have e1:=hstep e s (H++[.arr 0 5 false [e.av]]) hg1 (hP _ _ _ hp)
 obtain⟨v,H1,c1,c2,c3⟩:=zz.1 e1
 have hbox:H1[H.length]?=some (.arr 0 5 false [e.av]):=c2.2 H.length [e.av] (by simp)
 cases hst:step e s with
 |inr z=>
  rw[hst]at c3
  obtain⟨rfl,c4⟩:=c3
  simp[zhb,c231,c1,hy]
  exact⟨(zan.append _ _ _).trans c2,rfl,c4⟩
 |inl s'=>
  rw[hst]at c3 hg2
  obtain⟨rfl,c4⟩:=c3
  have hL:=zqF e hs y hy P Q G step hP (fun x hx s H hg hp=>ih x hx (by have:=Ex.mem_size hx;rw[Ex.size_eq]at hs;omega) s H hg hp) e.args.l 0 s' H1 rfl (by omega) hg2 c4
  simp only[Int.natCast_zero]at hL
  obtain⟨x,F',H',g1,g2,g3⟩:=zc.1 hL
  have hk:=((zan.append 5 H (.arr 0 5 false [e.av])).trans c2).trans g2
  cases hrun:runS step (Ex.partss e.args.l) s' with
  |inl s''=>
   rw[hrun]at g3
   obtain⟨rfl,g4⟩:=g3
   simp[zhb,c231,c1,hy,hbox,g1,zL, -getElem?_pos,gEz]
   refine⟨hk,?_⟩
   rw[hrun]
   exact⟨rfl,g4⟩
  |inr z=>
   rw[hrun]at g3
   obtain⟨rfl,g4,g5⟩:=g3
   simp[zhb,c231,c1,hy,hbox,g1,g4,zL, -getElem?_pos,gEz]
   refine⟨hk,?_⟩
   rw[hrun]
   exact⟨rfl,g5⟩
theorem znl {σ ρ:Type} (e:Ex) (hs:e.size≤1000000000) (b:Nat) (y:AV) (hy:okO y=some y) (P:σ→Heap→Prop) (Q:ρ→Heap→Prop) (G:σ→Prop) (step:Ex→σ→σ⊕ρ) (hP:∀s H B,P s H→P s (H++[B]))
  (hstep:∀x s H,G s→P s H→okV (W.call y [x.av] H) (zdj (α:=Ex) 5 P Q (step x s) H)) (s:σ) (H:Heap) (hb:H[b]?=some (.arr 0 5 false [e.av])) (hg:runG G step e.parts s) (hp:P s H):
  okV (W.call (.clo 230 [] [.optr b 0 0 0]) [y] H) (fun v H'=>v= .tuple []∧zan 5 H H'∧match runS step e.parts s with| .inl s'=>P s' H'| .inr z=>Q z H'):=by
 rw[zj Φ230]
 obtain⟨v,H',c1,c2,c3⟩:=zz.1 (zmW y hy P Q G step hP hstep e hs s H hg hp)
 have hv:okO v=some v:=by
  cases hrun:runS step e.parts s<;>rw[hrun]at c3<;>rw[c3.1]<;>rfl
 simp[zoi,c230,hb,hy,c1,hv,zL, -getElem?_pos,gEz]
 refine⟨c2,?_⟩
 cases hrun:runS step e.parts s with
 |inl s'=>rw[hrun]at c3;exact c3.2
 |inr z=>rw[hrun]at c3;exact c3.2
def OwnS (H:Heap) (v:AV) (l:List (List UInt8)) (n:Nat):Prop:=
 (v= .isl (some true) 0 []∧l=[])∨∃id ver,n≤id∧v= .osl id ver 0 l.length∧l≠[]∧H[id]?=some (.arr ver 1 false (l.map .str))
theorem OwnS.okO {H:Heap} {v:AV} {l:List (List UInt8)} {n:Nat} (h:OwnS H v l n):okO v=some v:=by
 rcases h with⟨rfl,_⟩|⟨id,ver,_,rfl,_⟩<;>rfl
theorem OwnS.cells {H:Heap} {v:AV} {l:List (List UInt8)} {n:Nat} (h:OwnS H v l n):v.cells=[v]:=by
 rcases h with⟨rfl,_⟩|⟨id,ver,_,rfl,_⟩<;>rfl
theorem OwnS.cell {H:Heap} {v:AV} {l:List (List UInt8)} {n:Nat} (h:OwnS H v l n):v.cell=true:=by
 rcases h with⟨rfl,_⟩|⟨id,ver,_,rfl,_⟩<;>rfl
theorem OwnS.kept {H H':Heap} {v:AV} {l:List (List UInt8)} {n:Nat} (h:OwnS H v l n) (hk:∀(j:Nat) (B:Blk),n≤j→H[j]?=some B→H'[j]?=some B):OwnS H' v l n:=by
 rcases h with⟨rfl,h2⟩|⟨id,ver,h1,h2,h3,h4⟩
 .exact .inl ⟨rfl,h2⟩
 .exact .inr ⟨id,ver,h1,h2,h3,hk _ _ h1 h4⟩
theorem OwnS.app {H:Heap} {v:AV} {l:List (List UInt8)} {n:Nat} (h:OwnS H v l n) (hn:n≤H.length) (s:List UInt8) (hr:l.length<zaA):
  ∃v' H',ex H (.app 1) [v,.isl (some false) 1 [.str s]]=some (v',H')∧OwnS H' v' (l++[s]) n∧zan 5 H H'∧∀j,j<n→H'[j]?=H[j]?:=by
 have e0:ex H (.app 1) [v,.isl (some false) 1 [.str s]]=zb3 (truncH H v) 1 v [.str s]:=by simp[ex]
 rw[e0]
 rcases h with⟨rfl,rfl⟩|⟨id,ver,h1,rfl,h3,h4⟩
 .refine⟨.osl H.length 0 0 1,H++[.arr 0 1 false [.str s]],?_,.inr ⟨H.length,0,hn,rfl,by simp,by simp⟩,zan.append _ _ _,fun j hj=>by rw[gEa (by omega)]⟩
  simp[zb3,truncH,zaA]
 .have hid:=(gEs.1 h4).1
  have ht:truncH H (.osl id ver 0 l.length)=H:=by
   simp[truncH,h4]
  rw[ht]
  refine⟨.osl id (ver+1) 0 (l.length+1),H.set id (.arr (ver+1) 1 false (l.map .str++[.str s])),?_,.inr ⟨id,ver+1,h1,by simp,by simp,?_⟩,zan.set h4 (by intro es e;cases e),fun j hj=>by rw[gEn (by omega)]⟩
  .simp only[zb3,h4]
   rw[if_pos (by simp),if_pos (by simp;omega)]
   simp
  .rw[gEt hid];simp
theorem zk4 (x:List UInt8):∀l,(insS x l).length=l.length+1
 | []=>rfl
 |y::r=>by
  simp only[insS]
  split
  .rfl
  .simp[zk4 x r]
theorem zcE:∀l,(zcw l).length=l.length
 | []=>rfl
 |x::r=>by simp only[zcw,zk4,zcE r,lLc]
theorem zk3 (x s:List UInt8):∀l,s∈insS x l↔s=x∨s∈l
 | []=>by simp[insS]
 |y::r=>by
  simp only[insS]
  split
  .simp
  .simp only[lMc,zk3 x s r]
   constructor
   .rintro (h|h|h)<;>simp[h]
   .rintro (h|h|h)<;>simp[h]
theorem zfc (s:List UInt8):∀l,s∈zcw l↔s∈l
 | []=>by simp[zcw]
 |x::r=>by simp only[zcw,zk3,zfc s r,lMc]
theorem zfO (s:List UInt8):∀l,s∈zag l↔s∈l
 | []=>by simp[zag]
 | [x]=>by simp[zag]
 |x::y::r=>by
  have ih:=zfO s (y::r)
  simp only[zag]
  split
  .rename_i h;subst h;rw[ih];simp
  .simp only[lMc,ih]
theorem zdT:∀l,(zag l).length≤l.length
 | []=>by simp[zag]
 | [x]=>by simp[zag]
 |x::y::r=>by
  have ih:=zdT (y::r)
  simp only[zag]
  split
  .simp at *;omega
  .simp at *;omega
theorem zd1:∀l:List (List UInt8),zer (l.map .str)=some l
 | []=>rfl
 |x::r=>by simp only[List.map_cons,zer,zd1 r,oMs]
theorem zBh (vs:List AV) (H:Heap):W.call (.clo 212 [] []) vs H=zm4 vs H:=by
 have h:Φ 212=none:=by kernel_rfl
 rw[zeb]
 simp[zf3,h,extM]
theorem zBg (vs:List AV) (H:Heap):W.call (.clo 213 [] []) vs H=zo4 vs H:=by
 have h:Φ 213=none:=by kernel_rfl
 rw[zeb]
 simp[zf3,h,extM]
theorem zp1 {H:Heap} {v:AV} {l:List (List UInt8)} {n:Nat} (h:OwnS H v l n) (hl:l.length≤1048576):
  ∃H',W.call (.clo 212 [] []) [v] H=some (.tuple [],H')∧OwnS H' v (zcw l) n∧∀j,j<n→H'[j]?=H[j]?:=by
 rw[zBh]
 rcases h with⟨rfl,rfl⟩|⟨id,ver,h1,rfl,h3,h4⟩
 .exact⟨H,rfl,.inl ⟨rfl,rfl⟩,fun _ _=>rfl⟩
 .have hid:=(gEs.1 h4).1
  have hpos:0<l.length:=List.length_pos_iff.2 h3
  refine⟨H.set id (.arr ver 1 false ((zcw l).map .str)),?_,.inr ⟨id,ver,h1,by rw[zcE],?_,gEt hid⟩,fun j hj=>by rw[gEn (by omega)]⟩
  .simp[zm4,h4,zd1,hpos,hl]
  .intro e;have:=zcE l;rw[e]at this;simp at this;omega
theorem zr6 {H:Heap} {v:AV} {l:List (List UInt8)} {n:Nat} (h:OwnS H v l n) (hl:l.length≤1048576):
  ∃v' H' x,W.call (.clo 213 [] []) [v] H=some (v',H')∧okO v'=some v'∧frz H' 8 v'=some (Sl.av AV.str 1 x)∧x.l=zag l:=by
 rw[zBg]
 rcases h with⟨rfl,rfl⟩|⟨id,ver,h1,rfl,h3,h4⟩
 .exact⟨_,H,za5,rfl,rfl,rfl,rfl⟩
 .have hid:=(gEs.1 h4).1
  have hpos:0<l.length:=List.length_pos_iff.2 h3
  refine⟨.osl id ver 0 (zag l).length,H.set id (.arr ver 1 false ((zag l++List.replicate (l.length - (zag l).length) []).map .str)),ofL 1 (zag l),?_,rfl,?_,rfl⟩
  .simp[zo4,h4,zd1,hpos,hl]
  .have hg:Grow (H.set id (.arr ver 1 false ((zag l++List.replicate (l.length - (zag l).length) []).map .str))) 1 (some id) (.osl id ver 0 (zag l).length) ((zag l).map .str):=
    ⟨ver,(List.replicate (l.length - (zag l).length) []).map .str,by simp,by rw[gEt hid,List.map_append]⟩
   rw[hg.frz (n:=7) (by simp)]
   simp[zcs]
def zch (e:Ex):List (List UInt8):=e.parts.foldl (fun s x=>if x.kind=2 then s++[x.name] else s) []
theorem zkv {α σ ρ:Type} (f:α→σ→σ):∀(l:List α) (s:σ),runS (ρ:=ρ) (fun x s=> .inl (f x s)) l s= .inl (l.foldl (fun s x=>f x s) s)
 | [],s=>rfl
 |a::r,s=>by simp only[runS,List.foldl_cons];exact zkv f r _
def K216 (st:LoopState) (pe:Option LX):Blk:= .loop st pe [(2,.isl (some true) 0 []),(3,.optr 1 0 0 0)] [10] zd8 zd7
def P216 (s:List (List UInt8)) (H:Heap):Prop:=H[3]?=some (K216 .ready none)∧∃v,H[1]?=some (.arr 0 1 false [v])∧OwnS H v s 4
def zdA (x:Ex) (s:List (List UInt8)):List (List UInt8):=if x.kind=2 then s++[x.name] else s
theorem zjo {a v:AV} (ha:a.cells=[a]) (hv:v.cells=[v]) (hc:v.cell=true):ze [a] 0 0 v=some [v]:=by
 cases a with
 |agg cs=>
  have h1:cs=[AV.agg cs]:=ha
  have h2:=congrArg (fun l:List AV=>SizeOf.sizeOf l) h1
  simp at h2
  omega
 |_=>simp[ze,ha,hv,hc]
theorem zqd (x:Ex) (s:List (List UInt8)) (H:Heap) (hg:s.length<1000000) (hp:P216 s H):
  okV (W.call (.yld 3) [x.av] H) (zdj (α:=Ex) 5 P216 (fun (_:Unit) _=>False) (.inl (zdA x s)) H):=by
 obtain⟨h1,v,h2,h3⟩:=hp
 have hl:=(gEs.1 h1).1
 rw[zx0,zeC h1 rfl]
 have a1:(H++[Blk.arr 0 5 false [x.av]])[3]?=some (K216 .ready none):=zaf h1 _
 have a2:(H++[Blk.arr 0 5 false [x.av]])[H.length]?=some (.arr 0 5 false [x.av]):=zL _ _
 have a3:(H++[Blk.arr 0 5 false [x.av]])[1]?=some (.arr 0 1 false [v]):=zaf h2 _
 have b1:∀B,((H++[Blk.arr 0 5 false [x.av]]).set 3 B)[3]?=some B:=fun B=>gEt (by simp;omega)
 have b2:∀B,((H++[Blk.arr 0 5 false [x.av]]).set 3 B)[H.length]?=some (.arr 0 5 false [x.av]):=fun B=>by rw[gEn (by omega)];exact a2
 have b3:∀B,((H++[Blk.arr 0 5 false [x.av]]).set 3 B)[1]?=some (.arr 0 1 false [v]):=fun B=>by rw[gEn (by omega)];exact a3
 have o0:∀B,OwnS ((H++[Blk.arr 0 5 false [x.av]]).set 3 B) v s 4:=fun B=>h3.kept (fun j C hj hC=>by rw[gEn (by omega)];exact zaf hC _)
 have k0:zan 5 H (H++[Blk.arr 0 5 false [x.av]]):=zan.append _ _ _
 have k1:∀B,zan 5 H ((H++[Blk.arr 0 5 false [x.av]]).set 3 B):=fun B=>k0.trans (zan.set a1 (by intro es e;cases e))
 have hlen:∀B,4≤((H++[Blk.arr 0 5 false [x.av]]).set 3 B).length:=fun B=>by simp;omega
 simp only[K216]at *
 by_cases hk:x.kind=2
 .obtain⟨v',H',e1,e2,e3,e4⟩:=(o0 (.loop .busy none [(2,.isl (some true) 0 []),(3,.optr 1 0 0 0)] [10] zd8 zd7)).app (hlen _) x.name (by simp[zaA];omega)
  have g1:H'[1]?=some (.arr 0 1 false [v]):=by rw[e4 1 (by omega)];exact b3 _
  have g3:=e4 3 (by omega)
  rw[b1]at g3
  have hl1:=(gEs.1 g1).1
  have hl3:=(gEs.1 g3).1
  have s1:=zjo h3.cells e2.cells e2.cell
  have g4:∀B,(H'.set 1 B)[3]?=some (.loop .busy none [(2,.isl (some true) 0 []),(3,.optr 1 0 0 0)] [10] zd8 zd7):=fun B=>by rw[gEn (by omega)];exact g3
  simp[zcJ,ziP,zeT,ziN,zeR,zbZ,a1,a2,b1,b2,b3,hk,h3.okO,h3.cells,e1,e2.okO,e2.cells,e2.cell,g1,g3,g4,s1,zdA,zL, -getElem?_pos,gEz, -List.append_assoc]
  refine⟨((k1 _).trans e3).trans ((zan.set g1 (by intro es e;cases e)).trans (zan.set (g4 _) (by intro es e;cases e))),rfl,gEt (by simp;omega),v',?_,?_⟩
  .rw[gEn (by omega),gEt hl1]
  .exact e2.kept (fun j C hj hC=>by rw[gEn (by omega),gEn (by omega)];exact hC)
 .simp[zcJ,ziP,zeT,ziN,zeR,zbZ,a1,a2,b1,b2,b3,hk,zdA,zL, -getElem?_pos,gEz, -List.append_assoc]
  refine⟨k1 _,rfl,gEt (by simp;omega),v,?_,?_⟩
  .rw[gEn (by omega)];exact a3
  .exact h3.kept (fun j C hj hC=>by rw[gEn (by omega)];exact zaf hC _)
theorem zfa:∀(l:List Ex) (s:List (List UInt8)),(l.foldl (fun s x=>zdA x s) s).length≤s.length+l.length
 | [],s=>by simp
 |x::r,s=>by
  have:=zfa r (zdA x s)
  have h:(zdA x s).length≤s.length+1:=by unfold zdA;split<;>simp
  simp only[List.foldl_cons,lLc];omega
theorem zkw:∀(l:List Ex) (s:List (List UInt8)),s.length+l.length<1000000→runG (ρ:=Unit) (fun s:List (List UInt8)=>s.length<1000000) (fun x s=> .inl (zdA x s)) l s
 | [],s,h=>trivial
 |x::r,s,h=>by
  have h1:(zdA x s).length≤s.length+1:=by unfold zdA;split<;>simp
  simp only[lLc]at h
  exact⟨by omega,zkw r _ (by omega)⟩
theorem zeZ (e:Ex):zch e=e.parts.foldl (fun s x=>zdA x s) []:=rfl
mutual
theorem Ex.parts_len:∀e:Ex,e.parts.length=e.size
 | .mk a b c d n z l=>by simp only[Ex.parts,Ex.size,lLc,Ex.partss_len l];omega
theorem Ex.partss_len:∀l:List Ex,(Ex.partss l).length=Ex.sizes l
 | []=>rfl
 |x::r=>by simp only[Ex.partss,Ex.sizes,List.length_append,Ex.parts_len x,Ex.partss_len r]
end
theorem zfJ {e:Ex} (h:zF e=0):e.size≤100:=by
 unfold zF at h
 split at h
 .cases h
 .omega
theorem e216 (e:Ex) (hz:zF e=0):∃x:Sl (List UInt8),W.pure 165 [e.av]=some (Sl.av AV.str 1 x)∧x.l=zag (zcw (zch e)):=by
 have hs:=zfJ hz
 have c1:=e153 e
 rw[hz]at c1
 have p1:=e183 e [.arr 0 5 false [e.av],.arr 0 1 false [.isl (some true) 0 []]]
 have hd:=znl e (by omega) 2 (.yld 3) rfl P216 (fun (_:Unit) _=>False) (fun s=>s.length<1000000) (fun x s=> .inl (zdA x s))
  (by rintro s H B ⟨h1,v,h2,h3⟩;exact⟨zaf h1 B,v,zaf h2 B,h3.kept (fun j C _ hC=>zaf hC B)⟩)
  (fun x s H hg hp=>zqd x s H hg hp) [] [.arr 0 5 false [e.av],.arr 0 1 false [.isl (some true) 0 []],.arr 0 5 false [e.av],K216 .ready none] rfl
  (zkw _ _ (by rw[Ex.parts_len];simp;omega)) ⟨rfl,_,rfl,.inl ⟨rfl,rfl⟩⟩
 obtain⟨v,H',d1,rfl,d2,d3⟩:=zz.1 hd
 rw[zkv,←zeZ]at d3
 obtain⟨d3,w,d4,d5⟩:=d3
 have hlen:(zch e).length≤100:=by
  have:=zfa e.parts []
  rw[Ex.parts_len]at this
  simp at this
  rw[zeZ];omega
 have hl3:=(gEs.1 d3).1
 have o1:∀B,OwnS (H'.set 3 B) w (zch e) 4:=fun B=>d5.kept (fun j C hj hC=>by rw[gEn (by omega)];exact hC)
 have g1:∀B,(H'.set 3 B)[1]?=some (.arr 0 1 false [w]):=fun B=>by rw[gEn (by omega)];exact d4
 simp only[K216]at *
 obtain⟨H2,f1,f2,f3⟩:=zp1 (o1 (.loop .exhausted none [(2,.isl (some true) 0 []),(3,.optr 1 0 0 0)] [10] zd8 zd7)) (by omega)
 obtain⟨v3,H3,x,k1,k2,k3,k4⟩:=zr6 f2 (by rw[zcE];omega)
 have g2:H2[1]?=some (.arr 0 1 false [w]):=by rw[f3 1 (by omega)];exact g1 _
 refine⟨x,?_,k4⟩
 rw[zd Φ165 (by simp)]
 simp[zrN,c165,c1,p1,d1,d3,zhV,g1,d5.okO,d5.cells,f1,g2,k1,k2,k3, -getElem?_pos,gEz]
theorem zfI (e:Ex) (s:List UInt8):s∈zch e↔∃x∈e.parts,x.kind=2∧x.name=s:=by
 have key:∀(l:List Ex) (a:List (List UInt8)),s∈l.foldl (fun s x=>zdA x s) a↔s∈a∨∃x∈l,x.kind=2∧x.name=s:=by
  intro l
  induction l with
  |nil=>intro a;simp
  |cons x r ih=>
   intro a
   simp only[List.foldl_cons,ih,lMc,exists_eq_or_imp]
   unfold zdA
   by_cases h:x.kind=2
   .simp only[h,if_true,List.mem_append,List.mem_singleton,true_and,or_assoc,eq_comm]
   .simp only[h,if_false,false_and,false_or]
 rw[zeZ,key]
 simp
end Go.Proofs.YtbddckhdbnmamaaGreat
