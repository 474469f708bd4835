/-
  Expressions: sizes, depths; the reference's functions of them (conditions: none). Sizes and depths of expressions in the reference (conditions: none). Check of expressions in the reference (conditions: none). Check of expressions in the reference, whole (conditions: none). expr.measure and expr.Size (conditions: none). expr.Size; visiting the parts of an expression (conditions: none). The operators; check of a part (conditions: none). expr.Check (conditions: none). expr.Check, whole (conditions: none).
-/
import Derived.Test.YtbddckhdbnmamaaGreatPres
import Derived.Test.YtbddckhdbnmamaaGreatPKs
namespace Go.Proofs.YtbddckhdbnmamaaGreat
open Go Go.RowKit
set_option linter.unusedVariables false
set_option linter.unusedSimpArgs false
set_option maxRecDepth 10000
mutual
def Ex.size:Ex→Nat| .mk _ _ _ _ _ _ l=>1+Ex.sizes l
def Ex.sizes:List Ex→Nat| []=>0|x::r=>x.size+Ex.sizes r
end
mutual
def Ex.depth:Ex→Nat| .mk _ _ _ _ _ _ l=>1+Ex.depths l
def Ex.depths:List Ex→Nat| []=>0|x::r=>max x.depth (Ex.depths r)
end
theorem Ex.size_eq (e:Ex):e.size=1+Ex.sizes e.args.l:=by cases e;simp only[Ex.size,Ex.args]
theorem Ex.depth_eq (e:Ex):e.depth=1+Ex.depths e.args.l:=by cases e;simp only[Ex.depth,Ex.args]
theorem Ex.size_pos (e:Ex):1≤e.size:=by rw[Ex.size_eq];omega
theorem Ex.depth_size:(∀e:Ex,e.depth≤e.size):=by
 refine Ex.ind (fun e ih=>?_)
 rw[Ex.depth_eq,Ex.size_eq]
 have:∀l:List Ex,(∀x∈l,x.depth≤x.size)→Ex.depths l≤Ex.sizes l:=by
  intro l
  induction l with
  |nil=>intro _;simp[Ex.depths,Ex.sizes]
  |cons a r ihr=>
   intro h
   have h1:=h a (by simp)
   have h2:=ihr (fun x hx=>h x (by simp[hx]))
   simp only[Ex.depths,Ex.sizes]
   omega
 have:=this e.args.l ih
 omega
theorem Ex.len_sizes (l:List Ex):l.length≤Ex.sizes l:=by
 induction l with
 |nil=>simp
 |cons a r ih=>have:=a.size_pos;simp only[lLc,Ex.sizes];omega
theorem Ex.mem_size {x:Ex} {l:List Ex} (h:x∈l):x.size≤Ex.sizes l:=by
 induction l with
 |nil=>cases h
 |cons a r ih=>
  simp only[Ex.sizes]
  cases h with
  |head=>omega
  |tail _ h=>have:=ih h;omega
def za3 (e:Ex):Bool:=decide (e.kind=0)&&decide (e.op=0)&&decide (e.name=[])&&decide (e.value=0)&&decide (e.args.l=[])
theorem e160 (e:Ex):W.pure 103 [e.av]=some (.bool (za3 e)):=by
 rw[zd Φ103 (by simp)]
 by_cases h1:e.kind=0<;>by_cases h2:e.op=0<;>by_cases h3:e.name=[]<;>by_cases h4:e.value=0<;>by_cases h5:e.args.l=[]<;>simp[zrX,c103,za3,zM,h1,h2,h3,h4,h5]
theorem zn {α:Type} {l r:List α} {a:α} {k:Nat} (h:l.drop k=a::r):k<l.length∧l[k]?=some a∧l.drop (k+1)=r:=by
 obtain⟨h1,h2,h3⟩:=zhy h
 exact⟨h1,by rw[gEg h1,h2],h3⟩
theorem zac {α:Type} {l r:List α} {a:α} {k:Nat} (h:l.drop k=a::r):a∈l:=by
 obtain⟨h1,h2,_⟩:=zhy h
 exact h2▸List.getElem_mem h1
theorem zf {α:Type} {l:List α} {k:Nat} (h:l.drop k=[]) (hk:k≤l.length):l.length=k:=by
 have:=congrArg List.length h
 simp at this;omega
theorem zt3 (e:Ex) (ih:∀x∈e.args.l,∀n:Nat,n≤100→W.pure 170 [x.av,I n]=some (I (min (n+x.size) 101:Nat))):
  ∀(r:List Ex) (k n:Nat),e.args.l.drop k=r→k≤e.args.l.length→k≤n→n≤101→
  okC (W.loop [1,2,5] znM [(1,I n),(2,.optr 0 0 0 0),(5,I k)] [.arr 0 5 false [e.av]]) (fun x F' H'=>(x= .exit 0∧F'.get 1=I (min (n+Ex.sizes r) 101:Nat))∨(x= .ret∧F'.get 4=I (min (n+Ex.sizes r) 101:Nat))):=by
 intro r
 induction r with
 |nil=>
  intro k n h1 h2 hkn hn
  have hk:=zf h1 h2
  rw[zb]
  simp[zhq,zi9,hk,Ex.sizes]
  omega
 |cons a r ihr=>
  intro k n h1 h2 hkn hn
  obtain⟨hlt,ha,hr⟩:=zn h1
  have hlt':(k:Int)<e.args.l.length:=by omega
  have hak:e.args.l[k]=a:=(gEs.1 ha).2
  have hpos:=a.size_pos
  rw[zb]
  by_cases h100:100<n
  .have h100':(100:Int)<n:=by omega
   have hm:n=min (n+Ex.sizes (a::r)) 101:=by simp only[Ex.sizes];omega
   simp[zhq,zi9,hlt,h100,h100']
   omega
  .have h100':¬(100:Int)<n:=by omega
   have e1:=ih a (zac h1) n (by omega)
   have hw:=zg (k:=k) (by omega)
   have hJ:=ihr (k+1) (min (n+a.size) 101) hr (by omega) (by omega) (by omega)
   have hmm:min (min (n+a.size) 101+Ex.sizes r) 101=min (n+Ex.sizes (a::r)) 101:=by simp only[Ex.sizes];omega
   rw[hmm]at hJ
   simp only[iNa,iCo]at hJ e1
   simp[zhq,zi9,hlt,hak,h100,h100',e1,hw]
   simpa using hJ
theorem e217:∀(e:Ex) (n:Nat),n≤100→W.pure 170 [e.av,I n]=some (I (min (n+e.size) 101:Nat)):=by
 refine Ex.ind (fun e ih=>?_)
 intro n hn
 rw[zd Φ170 (by simp)]
 have hL:=zt3 e ih e.args.l 0 (n+1) rfl (by omega) (by omega) (by omega)
 have hw:=zg (k:=n) (by omega)
 have hs:n+1+Ex.sizes e.args.l=n+e.size:=by rw[Ex.size_eq];omega
 rw[hs]at hL
 simp only[iNa,iCo]at hL
 obtain⟨x,F',H',e1,hx⟩:=zc.1 hL
 rcases hx with⟨rfl,p⟩|⟨rfl,p⟩<;>simp[zrL,c170,hw,e1,p]
theorem e191 (e:Ex):W.pure 131 [e.av]=some (I (min e.size 101:Nat)):=by
 rw[zd Φ131 (by simp)]
 have e1:=e217 e 0 (by omega)
 simp only[Int.natCast_zero,Nat.zero_add]at e1
 by_cases h:100<(min e.size 101:Nat)
 .have:min e.size 101=101:=by omega
  rw[this]at e1⊢
  simp[zoF,c131,e1]
 .have h':¬(100:Int)<(min e.size 101:Nat):=by omega
  generalize min e.size 101=m at *
  simp[zoF,c131,e1,h,h']
theorem zt8 (e:Ex) (hs:e.size≤1000000000) (ih:∀x∈e.args.l,W.pure 175 [x.av]=some (I (x.depth:Nat))):
  ∀(r:List Ex) (k d:Nat),e.args.l.drop k=r→k≤e.args.l.length→
  okC (W.loop [1,3,4] znL [(1,.optr 0 0 0 0),(3,I d),(4,I k)] [.arr 0 5 false [e.av]]) (fun x F' H'=>x= .exit 0∧F'.get 3=I (max d (Ex.depths r):Nat)):=by
 have hll:=Ex.len_sizes e.args.l
 rw[Ex.size_eq]at hs
 intro r
 induction r with
 |nil=>
  intro k d h1 h2
  have hk:=zf h1 h2
  rw[zb]
  simp[zhp,zi8,hk,Ex.depths]
 |cons a r ihr=>
  intro k d h1 h2
  obtain⟨hlt,ha,hr⟩:=zn h1
  have hlt':(k:Int)<e.args.l.length:=by omega
  have hak:e.args.l[k]=a:=(gEs.1 ha).2
  have e1:=ih a (zac h1)
  have hw:=zg (k:=k) (by omega)
  have hmm:max (max d a.depth) (Ex.depths r)=max d (Ex.depths (a::r)):=by simp only[Ex.depths];omega
  rw[zb]
  by_cases hd:d<a.depth
  .have hd':(d:Int)<a.depth:=by omega
   have hJ:=ihr (k+1) a.depth hr (by omega)
   have h3:max a.depth (Ex.depths r)=max d (Ex.depths (a::r)):=by rw[←hmm];omega
   rw[h3]at hJ
   simp only[iNa,iCo]at hJ
   simp[zhp,zi8,hlt,hak,e1,hd,hd',hw]
   simpa using hJ
  .have hd':¬(d:Int)<a.depth:=by omega
   have hJ:=ihr (k+1) d hr (by omega)
   have h3:max d (Ex.depths r)=max d (Ex.depths (a::r)):=by rw[←hmm];omega
   rw[h3]at hJ
   simp only[iNa,iCo]at hJ
   simp[zhp,zi8,hlt,hak,e1,hd,hd',hw]
   simpa using hJ
theorem e192:∀(e:Ex),e.size≤1000000000→W.pure 175 [e.av]=some (I (e.depth:Nat)):=by
 refine Ex.ind (fun e ih=>?_)
 intro hs
 rw[zd Φ175 (by simp)]
 have hd:=Ex.depth_size e
 have hL:=zt8 e hs (fun x hx=>ih x hx (by have:=Ex.mem_size hx;rw[Ex.size_eq]at hs;omega)) e.args.l 0 0 rfl (by omega)
 simp only[Int.natCast_zero]at hL
 obtain⟨x,F',H',e1,rfl,p⟩:=zc.1 hL
 have he:(1:Nat)+Ex.depths e.args.l=e.depth:=by rw[Ex.depth_eq]
 have hz:max 0 (Ex.depths e.args.l)=Ex.depths e.args.l:=by omega
 rw[hz]at p
 have hw:=zg (k:=Ex.depths e.args.l) (by omega)
 simp[zrH,c175,e1,p,hw]
 omega
def zbB {α:Type} (f:α→Int):List α→Int
 | []=>0
 |a::r=>if f a≠0 then f a else zbB f r
theorem ziS {α:Type} (f:α→Int) (l m:List α):zbB f (l++m)=if zbB f l≠0 then zbB f l else zbB f m:=by
 induction l with
 |nil=>simp[zbB]
 |cons a r ih=>
  simp only[List.cons_append,zbB,ih]
  by_cases h:f a=0<;>simp[h]
theorem zr0 {α:Type} {f:α→Int} {l:List α}:zbB f l=0↔∀a∈l,f a=0:=by
 induction l with
 |nil=>simp[zbB]
 |cons a r ih=>
  simp only[zbB,lMc,forall_eq_or_imp]
  by_cases h:f a=0<;>simp[h,ih]
def zaG (e:Ex):Bool:=(decide (e.kind=1)||decide (e.value=0))&&(decide (e.kind=2)||decide (e.name=[]))&&(!(decide (e.kind=1)||decide (e.kind=2))||decide (e.op=0))&&
 decide ((e.args.l.length:Int)=if e.kind=3 then 1 else if e.kind=4 then 2 else 0)
def zU (e:Ex):Int:=
 if e.kind<1∨4<e.kind then 8
 else if zaG e=false then 1
 else if e.value<0∨1099511627776<e.value then 2
 else if e.kind=2∧isNm e.name=false then 5
 else if (e.kind=3∧e.op≠1∧e.op≠2)∨(e.kind=4∧(e.op<3∨15<e.op)) then 8
 else 0
mutual
def Ex.parts:Ex→List Ex| .mk a b c d n z l=> .mk a b c d n z l::Ex.partss l
def Ex.partss:List Ex→List Ex| []=> []|x::r=>x.parts++Ex.partss r
end
theorem Ex.parts_eq (e:Ex):e.parts=e::Ex.partss e.args.l:=by cases e;simp only[Ex.parts,Ex.args]
set_option maxHeartbeats 4000000 in
theorem e218 (e:Ex):W.pure 218 [e.av]=some (.int .i64 (zU e)):=by
 rw[zd Φ218 (by simp)]
 by_cases hr:e.kind<1∨4<e.kind
 .simp[ziF,c218,zU,hr]
 .have hk:e.kind=1∨e.kind=2∨e.kind=3∨e.kind=4:=by omega
  have n1:=e147 e.name
  rcases hk with hk|hk|hk|hk
  .by_cases a1:e.name=[]<;>by_cases a2:e.op=0<;>by_cases a3:(e.args.l.length:Int)=0<;>by_cases a4:e.value<0∨1099511627776<e.value<;>
    simp[ziF,c218,zU,zaG,zM,hk,a1,a2,a3,a4]
  .by_cases a1:e.value=0<;>by_cases a2:e.op=0<;>by_cases a3:(e.args.l.length:Int)=0<;>cases a4:isNm e.name<;>
    simp[ziF,c218,zU,zaG,zM,hk,a1,a2,a3,a4,n1]
  .by_cases a1:e.value=0<;>by_cases a2:e.name=[]<;>by_cases a3:(e.args.l.length:Int)=1<;>by_cases a4:e.op=1<;>by_cases a5:e.op=2<;>
    simp[ziF,c218,zU,zaG,zM,hk,a1,a2,a3,a4,a5]
  .by_cases a1:e.value=0<;>by_cases a2:e.name=[]<;>by_cases a3:(e.args.l.length:Int)=2<;>by_cases a4:e.op<3∨15<e.op<;>
    simp[ziF,c218,zU,zaG,zM,hk,a1,a2,a3,a4]
def zF (e:Ex):Int:=if 100<e.size then 4 else if 12<e.depth then 22 else zbB zU e.parts
theorem zt7 (e:Ex) (hs:e.size≤1000000000) (ih:∀x∈e.args.l,W.pure 176 [x.av]=some (I (zbB zU x.parts))):
  ∀(r:List Ex) (k:Nat),e.args.l.drop k=r→k≤e.args.l.length→
  okC (W.loop [1,4] znK [(1,.optr 0 0 0 0),(4,I k)] [.arr 0 5 false [e.av]]) (fun x F' H'=>(zbB zU (Ex.partss r)=0∧x= .exit 0)∨(zbB zU (Ex.partss r)≠0∧x= .ret∧F'.get 2=I (zbB zU (Ex.partss r)))):=by
 have hll:=Ex.len_sizes e.args.l
 rw[Ex.size_eq]at hs
 intro r
 induction r with
 |nil=>
  intro k h1 h2
  have hk:=zf h1 h2
  rw[zb]
  simp[zho,zi7,hk,Ex.partss,zbB]
 |cons a r ihr=>
  intro k h1 h2
  obtain⟨hlt,ha,hr⟩:=zn h1
  have hlt':(k:Int)<e.args.l.length:=by omega
  have hak:e.args.l[k]=a:=(gEs.1 ha).2
  have e1:=ih a (zac h1)
  have hw:=zg (k:=k) (by omega)
  have hJ:=ihr (k+1) hr (by omega)
  simp only[iNa,iCo]at hJ
  simp only[Ex.partss,ziS]
  rw[zb]
  by_cases hz:zbB zU a.parts=0
  .simp only[hz,ne_eq,not_true_eq_false,if_false]
   simp[zho,zi7,hlt,hak,e1,hz,hw]
   simpa using hJ
  .simp only[hz,ne_eq,not_false_eq_true,if_true]
   simp[zho,zi7,hlt,hak,e1,hz,hw]
theorem e193:∀(e:Ex),e.size≤1000000000→W.pure 176 [e.av]=some (I (zbB zU e.parts)):=by
 refine Ex.ind (fun e ih=>?_)
 intro hs
 rw[zd Φ176 (by simp)]
 have e1:=e218 e
 rw[Ex.parts_eq]
 simp only[zbB]
 by_cases hz:zU e=0
 .have hL:=zt7 e hs (fun x hx=>ih x hx (by have:=Ex.mem_size hx;rw[Ex.size_eq]at hs;omega)) e.args.l 0 rfl (by omega)
  simp only[Int.natCast_zero]at hL
  obtain⟨x,F',H',e2,hx⟩:=zc.1 hL
  simp only[hz,ne_eq,not_true_eq_false,if_false]
  rcases hx with⟨p,rfl⟩|⟨p,rfl,q⟩
  .simp[zl4,c176,e1,e2,hz,p]
  .simp[zl4,c176,e1,e2,hz,q]
 .simp only[hz,ne_eq,not_false_eq_true,if_true]
  simp[zl4,c176,e1,hz]
theorem e161 (e:Ex):W.pure 148 [e.av]=some (I (zF e)):=by
 rw[zd Φ148 (by simp)]
 have e1:=e191 e
 by_cases h1:100<e.size
 .have:min e.size 101=101:=by omega
  rw[this]at e1
  simp[zl5,c148,e1,zF,h1]
 .have h0:min e.size 101=e.size:=by omega
  rw[h0]at e1
  have h1':¬(100:Int)<e.size:=by omega
  have e2:=e192 e (by omega)
  have e3:=e193 e (by omega)
  by_cases h2:12<e.depth
  .have h2':(12:Int)<e.depth:=by omega
   simp[zl5,c148,e1,e2,zF,h1,h1',h2,h2']
  .have h2':¬(12:Int)<e.depth:=by omega
   simp[zl5,c148,e1,e2,e3,zF,h1,h1',h2,h2']
theorem zt9 (e:Ex) (id ver:Nat) (ih:∀x∈e.args.l,∀(d n:Nat) (H:Heap),n≤100→d≤n+1→H[id]?=some (.arr ver 1 false [I n])→
   okV (W.call (.clo 209 [] []) [x.av,I d,.optr id ver 0 0] H) (fun v H'=>H'[id]?=some (.arr ver 1 false [I (min (n+x.size) 101:Nat)])∧Kept (some id) H H'∧∃m:Nat,v=I m∧m≤1000∧(n+x.size≤100→m+1=d+x.depth))) (d:Nat) (hd:d≤101):
  ∀(r:List Ex) (k b n:Nat) (H:Heap),e.args.l.drop k=r→k≤e.args.l.length→k≤n→n≤101→d≤n→d≤b→b≤1000→H[id]?=some (.arr ver 1 false [I n])→
  okC (W.loop [1,2,7,26,27,28] zkV [(1,I d),(2,.optr id ver 0 0),(7,I b),(26,Sl.av Ex.av 5 e.args),(27,I e.args.l.length),(28,I k)] H)
   (fun x F' H'=>x= .exit 0∧H'[id]?=some (.arr ver 1 false [I (min (n+Ex.sizes r) 101:Nat)])∧Kept (some id) H H'∧∃m:Nat,F'.get 7=I m∧m≤1000∧(n+Ex.sizes r≤100→m=max b (d+Ex.depths r))):=by
 intro r
 induction r with
 |nil=>
  intro k b n H h1 h2 hkn hn hdn hdb hb hH
  have hk:=zf h1 h2
  have hm:min n 101=n:=by omega
  rw[zb]
  simp[ze1,zgB,hk,Ex.sizes,Ex.depths,hH,hm]
  exact⟨Kept.refl _ _,b,rfl,hb,fun _=>by omega⟩
 |cons a r ihr=>
  intro k b n H h1 h2 hkn hn hdn hdb hb hH
  obtain⟨hlt,ha,hr⟩:=zn h1
  have hlt':(k:Int)<e.args.l.length:=by omega
  have hak:e.args.l[k]=a:=(gEs.1 ha).2
  have hpos:=a.size_pos
  have hid:id<H.length:=(gEs.1 hH).1
  have hne:¬H.length=id:=by omega
  rw[zb]
  have hH1:∀B,(H++[B])[id]?=some (.arr ver 1 false [I n]):=fun B=>zaf hH B
  have hw:=zg (k:=k) (by omega)
  have hwd:=zg (k:=d) (by omega)
  by_cases h100:100<n
  .have h100':(100:Int)<n:=by omega
   have hm:min (n+Ex.sizes (a::r)) 101=n:=by simp only[Ex.sizes];omega
   simp only[hm]
   have hH2:(H++[Blk.arr 0 5 false [a.av]])[id]?=some (.arr ver 1 false [I n]):=hH1 _
   simp[ze1,zgB,hlt,hak,h100,h100',hH2]
   refine⟨Kept.append _ _ _,⟨b,rfl,hb,fun h=>?_⟩⟩
   simp only[Ex.sizes]at h;omega
  .have h100':¬(100:Int)<n:=by omega
   have hH2:(H++[Blk.arr 0 5 false [a.av]])[id]?=some (.arr ver 1 false [I n]):=hH1 _
   have e1:=ih a (zac h1) (d+1) n (H++[.arr 0 5 false [a.av]]) (by omega) (by omega) hH2
   obtain⟨v,H1,c1,c2,c3,m,rfl,c4,c5⟩:=zz.1 e1
   simp only[iNa,iCo]at c1
   have hmm:min (min (n+a.size) 101+Ex.sizes r) 101=min (n+Ex.sizes (a::r)) 101:=by simp only[Ex.sizes];omega
   have key:∀b':Nat,b'=max b m→okC (W.loop [1,2,7,26,27,28] zkV [(1,I d),(2,.optr id ver 0 0),(7,I b'),(26,Sl.av Ex.av 5 e.args),(27,I e.args.l.length),(28,I (k+1:Nat))] H1)
     (fun x F' H'=>x= .exit 0∧H'[id]?=some (.arr ver 1 false [I (min (n+Ex.sizes (a::r)) 101:Nat)])∧Kept (some id) H H'∧∃m:Nat,F'.get 7=I m∧m≤1000∧(n+Ex.sizes (a::r)≤100→m=max b (d+Ex.depths (a::r)))):=by
    intro b' hb'
    have hJ:=ihr (k+1) b' (min (n+a.size) 101) H1 hr (by omega) (by omega) (by omega) (by omega) (by omega) (by omega) c2
    rw[hmm]at hJ
    obtain⟨x,F',H',g1,g2,g3,g4,m',g5,g6,g7⟩:=zc.1 hJ
    refine zc.2 ⟨x,F',H',g1,g2,g3,((Kept.append _ _ _).trans c3).trans g4,m',g5,g6,fun h=>?_⟩
    simp only[Ex.sizes]at h
    have:=g7 (by omega)
    have:=c5 (by omega)
    simp only[Ex.depths]
    omega
   by_cases hbm:b<m
   .have hbm':(b:Int)<m:=by omega
    have hk2:=key m (by omega)
    simp only[iNa,iCo]at hk2
    simp[ze1,zgB,hlt,hak,h100,h100',hH2,hwd,c1,hbm,hbm',hw]
    simpa using hk2
   .have hbm':¬(b:Int)<m:=by omega
    have hk2:=key b (by omega)
    simp only[iNa,iCo]at hk2
    simp[ze1,zgB,hlt,hak,h100,h100',hH2,hwd,c1,hbm,hbm',hw]
    simpa using hk2
theorem e182:∀(e:Ex) (id ver d n:Nat) (H:Heap),n≤100→d≤n+1→H[id]?=some (.arr ver 1 false [I n])→
   okV (W.call (.clo 209 [] []) [e.av,I d,.optr id ver 0 0] H) (fun v H'=>H'[id]?=some (.arr ver 1 false [I (min (n+e.size) 101:Nat)])∧Kept (some id) H H'∧∃m:Nat,v=I m∧m≤1000∧(n+e.size≤100→m+1=d+e.depth)):=by
 refine Ex.ind (fun e ih=>?_)
 intro id ver d n H hn hd hH
 have hid:id<H.length:=(gEs.1 hH).1
 have hne:¬H.length=id:=by omega
 rw[zj Φ209]
 have hw:=zg (k:=n) (by omega)
 have hH2:(H++[Blk.arr 0 5 false [e.av]])[id]?=some (.arr ver 1 false [I n]):=zaf hH _
 have hH3:∀B,((H++[Blk.arr 0 5 false [e.av]]).set id B)[id]?=some B:=fun B=>gEt (by simp;omega)
 have hH4:∀B,((H++[Blk.arr 0 5 false [e.av]]).set id B)[H.length]?=some (.arr 0 5 false [e.av]):=fun B=>by
  rw[gEn (by omega)];simp
 by_cases h100:100<n+1
 .have h100':(100:Int)<n+1:=by omega
  have hpos:=e.size_pos
  have hm:min (n+e.size) 101=n+1:=by omega
  simp only[hm]
  simp[zom,c209,hH2,hw,hH3,hH4,h100,h100',gEz, -getElem?_pos, -List.append_assoc]
  exact⟨((Kept.append _ _ _).trans (Kept.set _ _ _)),d,rfl,by omega,fun h=>by omega⟩
 .have h100':¬(100:Int)<n+1:=by omega
  have hd':¬(100:Int)<d:=by omega
  have hL:=zt9 e id ver (fun x hx d n H a b c=>ih x hx id ver d n H a b c) d (by omega) e.args.l 0 d (n+1) ((H++[Blk.arr 0 5 false [e.av]]).set id (Blk.arr ver 1 false [I (n+1:Nat)])) rfl (by omega) (by omega) (by omega) (by omega) (by omega) (by omega) (hH3 _)
  simp only[iNa,iCo,Int.natCast_zero]at hL
  obtain⟨x,F',H',e1,rfl,p1,p2,m,p3,p4,p5⟩:=zc.1 hL
  have hs:n+1+Ex.sizes e.args.l=n+e.size:=by rw[Ex.size_eq];omega
  rw[hs]at p1
  simp[zom,c209,hH2,hw,hH3,hH4,h100,h100',hd',e1,p3,p1,gEz, -getElem?_pos, -List.append_assoc]
  refine⟨((Kept.append _ _ _).trans (Kept.set _ _ _)).trans p2,m,rfl,p4,fun h=>?_⟩
  have:=p5 (by omega)
  rw[Ex.depth_eq]
  omega
def runS {α σ ρ:Type} (step:α→σ→σ⊕ρ):List α→σ→σ⊕ρ
 | [],s=> .inl s
 |a::r,s=>match step a s with| .inl s'=>runS step r s'| .inr x=> .inr x
theorem zfi {α σ ρ:Type} (step:α→σ→σ⊕ρ) (l m:List α) (s:σ):runS step (l++m) s=match runS step l s with| .inl s'=>runS step m s'| .inr x=> .inr x:=by
 induction l generalizing s with
 |nil=>rfl
 |cons a r ih=>
  simp only[List.cons_append,runS]
  cases step a s with
  |inl s'=>exact ih s'
  |inr x=>rfl
def zan (n:Nat) (H H':Heap):Prop:=H.length≤H'.length∧∀(j:Nat) (es:List AV),H[j]?=some (.arr 0 n false es)→H'[j]?=some (.arr 0 n false es)
theorem zan.refl (n:Nat) (H:Heap):zan n H H:=⟨Nat.le_refl _,fun _ _ h=>h⟩
theorem zan.trans {n:Nat} {A B C:Heap} (h:zan n A B) (h':zan n B C):zan n A C:=⟨Nat.le_trans h.1 h'.1,fun j es hj=>h'.2 j es (h.2 j es hj)⟩
theorem zan.append (n:Nat) (H:Heap) (B:Blk):zan n H (H++[B]):=⟨by simp,fun j es h=>zaf h B⟩
theorem zan.set {n:Nat} {H:Heap} {i:Nat} {B B':Blk} (hi:H[i]?=some B) (hb:∀es,B≠.arr 0 n false es):zan n H (H.set i B'):=⟨by simp,fun j es h=>by
 by_cases hj:i=j
 .subst hj;rw[hi]at h;cases h;exact absurd rfl (hb _)
 .rw[gEn hj];exact h⟩
def zdj {α σ ρ:Type} (n:Nat) (P:σ→Heap→Prop) (Q:ρ→Heap→Prop) (y:σ⊕ρ) (H:Heap) (v:AV) (H':Heap):Prop:=
 zan n H H'∧match y with| .inl s=>v= .bool true∧P s H'| .inr r=>v= .bool false∧Q r H'
theorem zt5 {σ ρ:Type} (e:Ex) (hs:e.size≤1000000000) (y:AV) (hy:okO y=some y) (P:σ→Heap→Prop) (Q:ρ→Heap→Prop) (step:Ex→σ→σ⊕ρ) (hP:∀s H B,P s H→P s (H++[B]))
  (ih:∀x∈e.args.l,∀s H,P s H→okV (W.call (.clo 231 [] []) [x.av,y] H) (zdj (α:=Ex) 5 P Q (runS step x.parts s) H)):
  ∀(r:List Ex) (k:Nat) (s:σ) (H:Heap),e.args.l.drop k=r→k≤e.args.l.length→P s H→
  okC (W.loop [1,12,13,14] zkS [(1,y),(12,Sl.av Ex.av 5 e.args),(13,I e.args.l.length),(14,I k)] H)
   (fun x F' H'=>zan 5 H H'∧match runS step (Ex.partss r) s with| .inl s'=>x= .exit 0∧P s' H'| .inr z=>x= .ret∧F'.get 4= .bool false∧Q z H'):=by
 have hll:=Ex.len_sizes e.args.l
 rw[Ex.size_eq]at hs
 intro r
 induction r with
 |nil=>
  intro k s H h1 h2 hp
  have hk:=zf h1 h2
  rw[zb]
  simp[zde,zeG,hk,Ex.partss,runS,hp,hy]
  exact zan.refl _ _
 |cons a r ihr=>
  intro k s H h1 h2 hp
  obtain⟨hlt,ha,hr⟩:=zn h1
  have hlt':(k:Int)<e.args.l.length:=by omega
  have hak:e.args.l[k]=a:=(gEs.1 ha).2
  have hw:=zg (k:=k) (by omega)
  have e1:=ih a (zac h1) s (H++[.arr 0 5 false [a.av]]) (hP _ _ _ hp)
  obtain⟨v,H1,c1,c2,c3⟩:=zz.1 e1
  rw[zb]
  simp only[Ex.partss,zfi]
  cases hrun:runS step a.parts s with
  |inr z=>
   rw[hrun]at c3
   obtain⟨rfl,c4⟩:=c3
   simp[zde,zeG,hlt,hak,c1,hy]
   exact⟨(zan.append _ _ _).trans c2,c4⟩
  |inl s'=>
   rw[hrun]at c3
   obtain⟨rfl,c4⟩:=c3
   have hJ:=ihr (k+1) s' H1 hr (by omega) c4
   simp only[iNa,iCo]at hJ
   obtain⟨x,F',H',g1,g2,g3⟩:=zc.1 hJ
   simp[zde,zeG,hlt,hak,c1,hy,hw,g1]
   refine⟨((zan.append _ _ _).trans c2).trans g2,?_⟩
   simpa using g3
theorem zpY {σ ρ:Type} (y:AV) (hy:okO y=some y) (P:σ→Heap→Prop) (Q:ρ→Heap→Prop) (step:Ex→σ→σ⊕ρ) (hP:∀s H B,P s H→P s (H++[B]))
  (hstep:∀x s H,P s H→okV (W.call y [x.av] H) (zdj (α:=Ex) 5 P Q (step x s) H)):
  ∀(e:Ex),e.size≤1000000000→∀(s:σ) (H:Heap),P s H→okV (W.call (.clo 231 [] []) [e.av,y] H) (zdj (α:=Ex) 5 P Q (runS step e.parts s) H):=by
 refine Ex.ind (fun e ih=>?_)
 intro hs s H hp
 rw[zj Φ231,Ex.parts_eq]
 simp only[runS]
 have e1:=hstep e s (H++[.arr 0 5 false [e.av]]) (hP _ _ _ hp)
 obtain⟨v,H1,c1,c2,c3⟩:=zz.1 e1
 have hbox:H1[H.length]?=some (.arr 0 5 false [e.av]):=c2.2 H.length [e.av] (by simp)
 cases hst:step e s with
 |inr z=>
  rw[hst]at c3
  obtain⟨rfl,c4⟩:=c3
  simp[zhb,c231,c1,hy]
  exact⟨(zan.append _ _ _).trans c2,rfl,c4⟩
 |inl s'=>
  rw[hst]at c3
  obtain⟨rfl,c4⟩:=c3
  have hL:=zt5 e hs y hy P Q step hP (fun x hx s H hp=>ih x hx (by have:=Ex.mem_size hx;rw[Ex.size_eq]at hs;omega) s H hp) e.args.l 0 s' H1 rfl (by omega) c4
  simp only[Int.natCast_zero]at hL
  obtain⟨x,F',H',g1,g2,g3⟩:=zc.1 hL
  have hk:=((zan.append 5 H (.arr 0 5 false [e.av])).trans c2).trans g2
  cases hrun:runS step (Ex.partss e.args.l) s' with
  |inl s''=>
   rw[hrun]at g3
   obtain⟨rfl,g4⟩:=g3
   simp[zhb,c231,c1,hy,hbox,g1,zL, -getElem?_pos,gEz]
   refine⟨hk,?_⟩
   rw[hrun]
   exact⟨rfl,g4⟩
  |inr z=>
   rw[hrun]at g3
   obtain⟨rfl,g4,g5⟩:=g3
   simp[zhb,c231,c1,hy,hbox,g1,g4,zL, -getElem?_pos,gEz]
   refine⟨hk,?_⟩
   rw[hrun]
   exact⟨rfl,g5⟩
abbrev zql (f:Nat):AV:= .clo 279 [] [.eptr [.clo f [] []]]
abbrev zdg (f:Nat):AV:= .clo 279 [] [.eptr [.clo 281 [] [.eptr [.clo f [] []]]]]
abbrev zqm (f:Nat):AV:= .clo 280 [] [.eptr [.clo f [] []]]
abbrev zbY (s:List UInt8) (p a r:Int) (f:AV):AV:= .agg [.str s,I p,I a,I r,f]
def zia:List AV:=[I 3,I 4,I 5,I 6,I 7,I 8,I 9,I 10,I 11,I 12,I 13,I 14,I 15]
def zh9:List AV:=[zbY [43] 4 1 1 (zql 241),zbY [45] 4 1 1 (zql 242),zbY [42] 5 1 1 (.clo 243 [] []),zbY [47] 5 1 1 (zqm 245),zbY [37] 5 1 1 (zqm 246),
 zbY [61,61] 3 0 2 (zdg 248),zbY [33,61] 3 0 2 (zdg 249),zbY [60] 3 1 2 (zdg 250),zbY [60,61] 3 1 2 (zdg 251),zbY [62] 3 1 2 (zdg 252),zbY [62,61] 3 1 2 (zdg 253),zbY [38,38] 2 2 2 (zdg 254),zbY [124,124] 1 2 2 (zdg 255)]
theorem e211:W.pure 232 []=some (.imap zia zh9):=(zee 60).pure _ _ _ (by kernel_rfl)
def zwS (n:Int):List UInt8:=if n=3 then [43] else if n=4 then [45] else if n=5 then [42] else if n=6 then [47] else if n=7 then [37] else if n=8 then [61,61] else if n=9 then [33,61] else if n=10 then [60] else if n=11 then [60,61] else if n=12 then [62] else if n=13 then [62,61] else if n=14 then [38,38] else if n=15 then [124,124] else []
def zwT (n:Int):Int:=if n=3∨n=4 then 4 else if n=5∨n=6∨n=7 then 5 else if 8≤n∧n≤13 then 3 else if n=14 then 2 else if n=15 then 1 else 0
def zt0 (n:Int):Int:=if 3≤n∧n≤7 then 1 else if n=8∨n=9 then 0 else if 10≤n∧n≤13 then 1 else if n=14∨n=15 then 2 else 0
def ztZ (n:Int):Int:=if 3≤n∧n≤7 then 1 else if 8≤n∧n≤15 then 2 else 0
def opFn (n:Int):AV:=if n=3 then zql 241 else if n=4 then zql 242 else if n=5 then .clo 243 [] [] else if n=6 then zqm 245 else if n=7 then zqm 246 else if n=8 then zdg 248 else if n=9 then zdg 249 else if n=10 then zdg 250 else if n=11 then zdg 251 else if n=12 then zdg 252 else if n=13 then zdg 253 else if n=14 then zdg 254 else if n=15 then zdg 255 else .nilf
def opV (n:Int):AV:=zbY (zwS n) (zwT n) (zt0 n) (ztZ n) (opFn n)
theorem zod (n m:Int) (v:AV) (r:List (AV×AV)) (i:Nat):zcR 0 (.int .i64 n) ((I m,v)::r) i=if n=m then some (some (i,v)) else zcR 0 (.int .i64 n) r (i+1):=by
 simp only[zcR,zbf,if_true]
 by_cases h:n=m<;>simp[h]
theorem zoc (q:Nat) (k:AV) (i:Nat):zcR q k [] i=some none:=rfl
theorem zfv (n:Int):(∃f b,opFn n= .clo f [] b)∨opFn n= .nilf:=by
 unfold opFn
 by_cases h3:n=3
 .exact .inl ⟨_,_,if_pos h3⟩
 rw[if_neg h3]
 by_cases h4:n=4
 .exact .inl ⟨_,_,if_pos h4⟩
 rw[if_neg h4]
 by_cases h5:n=5
 .exact .inl ⟨_,_,if_pos h5⟩
 rw[if_neg h5]
 by_cases h6:n=6
 .exact .inl ⟨_,_,if_pos h6⟩
 rw[if_neg h6]
 by_cases h7:n=7
 .exact .inl ⟨_,_,if_pos h7⟩
 rw[if_neg h7]
 by_cases h8:n=8
 .exact .inl ⟨_,_,if_pos h8⟩
 rw[if_neg h8]
 by_cases h9:n=9
 .exact .inl ⟨_,_,if_pos h9⟩
 rw[if_neg h9]
 by_cases h10:n=10
 .exact .inl ⟨_,_,if_pos h10⟩
 rw[if_neg h10]
 by_cases h11:n=11
 .exact .inl ⟨_,_,if_pos h11⟩
 rw[if_neg h11]
 by_cases h12:n=12
 .exact .inl ⟨_,_,if_pos h12⟩
 rw[if_neg h12]
 by_cases h13:n=13
 .exact .inl ⟨_,_,if_pos h13⟩
 rw[if_neg h13]
 by_cases h14:n=14
 .exact .inl ⟨_,_,if_pos h14⟩
 rw[if_neg h14]
 by_cases h15:n=15
 .exact .inl ⟨_,_,if_pos h15⟩
 rw[if_neg h15]
 exact .inr rfl
@[simp] theorem opFn_cell (n:Int):(opFn n).cell=true:=by rcases zfv n with⟨f,b,h⟩|h<;>rw[h]<;>rfl
theorem zgY (n:Int):zcR 0 (.int .i64 n) (zia.zip zh9) 0=if 3≤n∧n≤15 then some (some ((n - 3).toNat,opV n)) else some none:=by
 simp only[zia,zh9,List.zip_cons_cons,List.zip_nil_right,zod,zoc]
 by_cases h:3≤n∧n≤15
 .have hn:n=3∨n=4∨n=5∨n=6∨n=7∨n=8∨n=9∨n=10∨n=11∨n=12∨n=13∨n=14∨n=15:=by omega
  rcases hn with rfl|rfl|rfl|rfl|rfl|rfl|rfl|rfl|rfl|rfl|rfl|rfl|rfl<;>rfl
 .rw[if_neg h]
  rw[if_neg (by omega)]
  rw[if_neg (by omega)]
  rw[if_neg (by omega)]
  rw[if_neg (by omega)]
  rw[if_neg (by omega)]
  rw[if_neg (by omega)]
  rw[if_neg (by omega)]
  rw[if_neg (by omega)]
  rw[if_neg (by omega)]
  rw[if_neg (by omega)]
  rw[if_neg (by omega)]
  rw[if_neg (by omega)]
  rw[if_neg (by omega)]
theorem zdE {n:Int} (h:¬(3≤n∧n≤15)):zcR 0 (.int .i64 n) (zia.zip zh9) 0=some none:=by rw[zgY,if_neg h]
theorem zkE {n:Int} (h:3≤n∧n≤15):zcR 0 (.int .i64 n) (zia.zip zh9) 0=some (some ((n - 3).toNat,opV n)):=by rw[zgY,if_pos h]
set_option maxHeartbeats 4000000 in
theorem e184 (e:Ex):W.pure 211 [e.av]=some (I (zU e)):=by
 rw[zd Φ211 (by simp)]
 by_cases hr:e.kind<1∨4<e.kind
 .simp[zf1,c211,zU,hr]
 .have hk:e.kind=1∨e.kind=2∨e.kind=3∨e.kind=4:=by omega
  have n1:=e212 e.name
  have n2:=e211
  have f0:=zdE (n:=0) (by omega)
  have f1:=zdE (n:=1) (by omega)
  have f2:=zdE (n:=2) (by omega)
  rcases hk with hk|hk|hk|hk
  .by_cases a1:e.name=[]<;>by_cases a2:e.op=0<;>by_cases a3:e.args.l=[]<;>by_cases a4:e.value<0∨1099511627776<e.value<;>
    simp[zf1,c211,zU,zaG,zM,hk,a1,a2,a3,a4,n2,f0,apart]
  .by_cases a1:e.value=0<;>by_cases a2:e.op=0<;>by_cases a3:e.args.l=[]<;>cases a4:isNm e.name<;>
    simp[zf1,c211,zU,zaG,zM,hk,a1,a2,a3,a4,n1,n2,f0,apart]
  .by_cases hop:3≤e.op∧e.op≤15
   .have f3:=zkE hop
    have a4:e.op≠1:=by omega
    have a5:e.op≠2:=by omega
    by_cases a1:e.value=0<;>by_cases a2:e.name=[]<;>by_cases a3:(e.args.l.length:Int)=1<;>
     simp[zf1,c211,zU,zaG,zM,hk,a1,a2,a3,a4,a5,n2,f3,opV,apart]
   .have f3:=zdE hop
    by_cases a1:e.value=0<;>by_cases a2:e.name=[]<;>by_cases a3:(e.args.l.length:Int)=1<;>by_cases a4:e.op=1<;>by_cases a5:e.op=2<;>
     simp[zf1,c211,zU,zaG,zM,hk,a1,a2,a3,a4,a5,n2,f1,f2,f3,apart]
  .by_cases hop:3≤e.op∧e.op≤15
   .have f3:=zkE hop
    have a4:¬(e.op<3∨15<e.op):=by omega
    by_cases a1:e.value=0<;>by_cases a2:e.name=[]<;>by_cases a3:(e.args.l.length:Int)=2<;>
     simp[zf1,c211,zU,zaG,zM,hk,a1,a2,a3,a4,n2,f3,opV,apart]
   .have f3:=zdE hop
    have a4:e.op<3∨15<e.op:=by omega
    by_cases a1:e.value=0<;>by_cases a2:e.name=[]<;>by_cases a3:(e.args.l.length:Int)=2<;>
     simp[zf1,c211,zU,zaG,zM,hk,a1,a2,a3,a4,n2,f3,apart]
theorem zqa {α:Type} (f:α→Int) (l:List α):runS (fun x (_:Unit)=>if f x≠0 then .inr (f x) else .inl ()) l ()=if zbB f l=0 then .inl () else .inr (zbB f l):=by
 induction l with
 |nil=>rfl
 |cons a r ih=>
  simp only[runS,zbB]
  by_cases h:f a=0
  .simp only[h,ne_eq,not_true_eq_false,if_false];exact ih
  .simp[h]
theorem e183 (e:Ex) (H:Heap):W.call (.clo 210 [] []) [e.av] H=some (.clo 230 [] [.optr H.length 0 0 0],H++[.arr 0 5 false [e.av]]):=by
 rw[zj Φ210]
 simp[zry,c210]
theorem zqk {σ ρ:Type} (e:Ex) (hs:e.size≤1000000000) (b:Nat) (y:AV) (hy:okO y=some y) (P:σ→Heap→Prop) (Q:ρ→Heap→Prop) (step:Ex→σ→σ⊕ρ) (hP:∀s H B,P s H→P s (H++[B]))
  (hstep:∀x s H,P s H→okV (W.call y [x.av] H) (zdj (α:=Ex) 5 P Q (step x s) H)) (s:σ) (H:Heap) (hb:H[b]?=some (.arr 0 5 false [e.av])) (hp:P s H):
  okV (W.call (.clo 230 [] [.optr b 0 0 0]) [y] H) (fun v H'=>v= .tuple []∧zan 5 H H'∧match runS step e.parts s with| .inl s'=>P s' H'| .inr z=>Q z H'):=by
 rw[zj Φ230]
 obtain⟨v,H',c1,c2,c3⟩:=zz.1 (zpY y hy P Q step hP hstep e hs s H hp)
 have hv:okO v=some v:=by
  cases hrun:runS step e.parts s<;>rw[hrun]at c3<;>rw[c3.1]<;>rfl
 simp[zoi,c230,hb,hy,c1,hv,zL, -getElem?_pos,gEz]
 refine⟨c2,?_⟩
 cases hrun:runS step e.parts s with
 |inl s'=>rw[hrun]at c3;exact c3.2
 |inr z=>rw[hrun]at c3;exact c3.2
def K153 (st:LoopState) (pe:Option LX):Blk:= .loop st pe [(2,.optr 1 0 0 0)] [15] zjv zju
theorem zqe (id:Nat) (hid:1<id) (x:Ex) (H:Heap) (h:H[id]?=some (K153 .ready none)∧H[1]?=some (.arr 0 1 false [I 0])):
  okV (W.call (.yld id) [x.av] H) (zdj (α:=Ex) 5 (fun (_:Unit) H=>H[id]?=some (K153 .ready none)∧H[1]?=some (.arr 0 1 false [I 0])) (fun (c:Int) H=>H[id]?=some (K153 .done (some .ret))∧H[1]?=some (.arr 0 1 false [I c])) (if zU x≠0 then .inr (zU x) else .inl ()) H):=by
 obtain⟨h1,h2⟩:=h
 have hl:=(gEs.1 h1).1
 rw[zx0,zeC h1 rfl]
 have e1:=e184 x
 have a1:(H++[Blk.arr 0 5 false [x.av]])[id]?=some (K153 .ready none):=zaf h1 _
 have a2:(H++[Blk.arr 0 5 false [x.av]])[H.length]?=some (.arr 0 5 false [x.av]):=zL _ _
 have a3:(H++[Blk.arr 0 5 false [x.av]])[1]?=some (.arr 0 1 false [I 0]):=zaf h2 _
 have b1:∀B,((H++[Blk.arr 0 5 false [x.av]]).set id B)[id]?=some B:=fun B=>gEt (by simp;omega)
 have b2:∀B,((H++[Blk.arr 0 5 false [x.av]]).set id B)[H.length]?=some (.arr 0 5 false [x.av]):=fun B=>by rw[gEn (by omega)];exact a2
 have b3:∀B,((H++[Blk.arr 0 5 false [x.av]]).set id B)[1]?=some (.arr 0 1 false [I 0]):=fun B=>by rw[gEn (by omega)];exact a3
 have c1:∀B C,(((H++[Blk.arr 0 5 false [x.av]]).set id B).set 1 C)[id]?=some B:=fun B C=>by rw[gEn (by omega)];exact b1 B
 have k0:zan 5 H (H++[Blk.arr 0 5 false [x.av]]):=zan.append _ _ _
 have kS:∀st pe B,zan 5 ((H++[Blk.arr 0 5 false [x.av]]).set id (K153 st pe)) (((H++[Blk.arr 0 5 false [x.av]]).set id (K153 st pe)).set id B):=fun st pe B=>zan.set (b1 _) (by intro es e;cases e)
 simp only[K153]at *
 by_cases hz:zU x=0
 .simp only[hz,ne_eq,not_true_eq_false,if_false]
  simp[zcJ,ziQ,zeU,ziO,zeS,zbZ,a1,a2,b1,b2,b3,e1,hz,zL, -getElem?_pos,gEz, -List.append_assoc]
  refine⟨k0.trans (zan.set a1 (by intro es e;cases e)),rfl,gEt (by simp;omega),?_⟩
  rw[gEn (by omega)];exact a3
 .simp only[hz,ne_eq,not_false_eq_true,if_true]
  simp[zcJ,ziQ,zeU,ziO,zeS,zbZ,a1,a2,b1,b2,b3,c1,e1,hz,zL, -getElem?_pos,gEz, -List.append_assoc]
  refine⟨?_,rfl,gEt (by simp;omega),?_⟩
  .refine (k0.trans (zan.set a1 (by intro es e;cases e))).trans ((zan.set (b3 _) (by intro es e;cases e)).trans (zan.set (c1 _ _) (by intro es e;cases e)))
  .rw[gEn (by omega),gEt (by simp;omega)]
theorem e153 (e:Ex):W.pure 164 [e.av]=some (I (zF e)):=by
 rw[zd Φ164 (by simp)]
 have e1:=e182 e 2 0 1 0 [.arr 0 5 false [e.av],.arr 0 1 false [I 0],.arr 0 1 false [I 0]] (by omega) (by omega) rfl
 obtain⟨v,H1,c1,c2,c3,m,rfl,c4,c5⟩:=zz.1 e1
 simp only[Int.natCast_zero,iCo,Int.natCast_one,Nat.zero_add]at c1 c2
 have g0:H1[0]?=some (.arr 0 5 false [e.av]):=c3.get (by simp) rfl
 have g1:H1[1]?=some (.arr 0 1 false [I 0]):=c3.get (by simp) rfl
 have hlen:3≤H1.length:=c3.1
 by_cases h1:100<e.size
 .have hm:min e.size 101=101:=by omega
  rw[hm]at c2
  have s1:∀B,(H1.set 1 B)[1]?=some B:=fun B=>gEt (by omega)
  simp[zjM,c164,c1,c2,g0,g1,s1,zF,h1, -getElem?_pos,gEz]
 .have hm:min e.size 101=e.size:=by omega
  rw[hm]at c2
  have h1':¬(100:Int)<e.size:=by omega
  have hmd:m=e.depth:=by have:=c5 (by omega);omega
  subst hmd
  by_cases h2:12<e.depth
  .have h2':(12:Int)<e.depth:=by omega
   have s1:∀B,(H1.set 1 B)[1]?=some B:=fun B=>gEt (by omega)
   simp[zjM,c164,c1,c2,g0,g1,s1,zF,h1,h1',h2,h2', -getElem?_pos,gEz]
  .have h2':¬(12:Int)<e.depth:=by omega
   have p1:=e183 e H1
   have q0:(H1++[Blk.arr 0 5 false [e.av]]++[K153 .ready none])[H1.length]?=some (.arr 0 5 false [e.av]):=by
    rw[List.append_assoc,gEr (by omega)];simp
   have q1:(H1++[Blk.arr 0 5 false [e.av]]++[K153 .ready none])[H1.length+1]?=some (K153 .ready none):=by
    rw[List.append_assoc,gEr (by omega)];simp
   have q2:(H1++[Blk.arr 0 5 false [e.av]]++[K153 .ready none])[1]?=some (.arr 0 1 false [I 0]):=zaf (zaf g1 _) _
   have hp:=zqk e (by omega) H1.length (.yld (H1.length+1)) rfl
    (fun (_:Unit) H=>H[H1.length+1]?=some (K153 .ready none)∧H[1]?=some (.arr 0 1 false [I 0])) (fun (c:Int) H=>H[H1.length+1]?=some (K153 .done (some .ret))∧H[1]?=some (.arr 0 1 false [I c]))
    (fun x (_:Unit)=>if zU x≠0 then .inr (zU x) else .inl ()) (by intro s H B h;exact⟨zaf h.1 B,zaf h.2 B⟩) (fun x s H h=>zqe (H1.length+1) (by omega) x H h) () _ q0 ⟨q1,q2⟩
   obtain⟨v,H',d1,rfl,d2,d3⟩:=zz.1 hp
   rw[zqa]at d3
   have hlen':H1.length+1<H'.length:=by
    have:=d2.1;simp at this;omega
   simp only[K153]at d1 d3
   by_cases hz:zbB zU e.parts=0
   .rw[if_pos hz]at d3
    obtain⟨d3,d4⟩:=d3
    have s1:∀B,(H'.set (H1.length+1) B)[1]?=some (.arr 0 1 false [I 0]):=fun B=>by rw[gEn (by omega)];exact d4
    have s2:∀B C,((H'.set (H1.length+1) B).set 1 C)[1]?=some C:=fun B C=>gEt (by simp;omega)
    simp[zjM,c164,c1,c2,g0,g1,p1,d1,d3,zhV,s1,s2,zF,h1,h1',h2,h2',hz, -getElem?_pos,gEz, -List.append_assoc]
   .rw[if_neg hz]at d3
    obtain⟨d3,d4⟩:=d3
    have s1:∀B,(H'.set (H1.length+1) B)[1]?=some (.arr 0 1 false [I (zbB zU e.parts)]):=fun B=>by rw[gEn (by omega)];exact d4
    simp[zjM,c164,c1,c2,g0,g1,p1,d1,d3,zhV,s1,zF,h1,h1',h2,h2',hz, -getElem?_pos,gEz, -List.append_assoc]
end Go.Proofs.YtbddckhdbnmamaaGreat
