/-
  The text of an expression: expr.Print (conditions: none).
-/
import Derived.Test.YtgamobngbenehaaGreatDoorH1p
import Derived.Test.YtgamobngbenehaaGreatDoorBBp
namespace Go.Proofs.YtgamobngbenehaaGreatDoor
open Go Go.RowKit
set_option linter.unusedVariables false
set_option linter.unusedSimpArgs false
set_option maxRecDepth 10000
set_option maxHeartbeats 4000000
theorem zeM (n:Int):(zdm n).length≤2:=by
 have key:∀(c:Prop) [Decidable c] (a b:List UInt8),a.length≤2→b.length≤2→(if c then a else b).length≤2:=by
  intro c _ a b ha hb
  split
  .exact ha
  .exact hb
 unfold zdm
 repeat' apply key
 all_goals decide
def WrOk (e:Ex):Prop:=∀(H:Heap) (id:Nat) (s:List UInt8),Bld H id 87 [] s→s.length+e.tx.length≤zE→
 ∃H',W.call (.clo 277 [] []) [.bptr id 0,e.av] H=some (.tuple [],H')∧Bld H' id 87 [] (s++e.tx)∧zS H H'
def ArOk (e:Ex):Prop:=∀(H:Heap) (id:Nat) (s:List UInt8) (lim:Int),Bld H id 87 [] s→s.length+(parT lim (e.tx,zcw e)).length≤zE→
 ∃H',W.call (.clo 287 [] []) [.bptr id 0,e.av,I lim] H=some (.tuple [],H')∧Bld H' id 87 [] (s++parT lim (e.tx,zcw e))∧zS H H'
theorem in87:zfH.contains (87,0,([]:List AV).length+2)=true:=rfl
theorem znk {e:Ex} (h:e.okP):e.kind=4→3≤e.op∧e.op≤15:=by
 intro h4
 have:=e.okP_self h
 unfold zak at this
 split at this
 .cases this
 .split at this
  .cases this
  .split at this
   .cases this
   .split at this
    .cases this
    .split at this
     .cases this
     .omega
section
attribute [local irreducible] okC okV
theorem zq6 {e:Ex} (hp:e.okP) (hw:WrOk e):ArOk e:=by
 intro H id s lim hb hl
 have p1:=e303 e (znk hp)
 have b1:Bld (H++[.arr 0 5 false [e.av]]) id 87 [] s:=hb.app _
 have hlast:∀B,(H++[B])[H.length]?=some B:=zg _
 rw[zpD Φ287 rfl]
 unfold parT at hl⊢
 by_cases hlt:zcw e<lim
 .rw[if_pos hlt]at hl⊢
  simp only[List.length_cons,List.length_append,List.length_nil]at hl
  obtain⟨H1,c1,c2,c3⟩:=zie b1 in87 40 (by omega) (by omega)
  have c4:H1[H.length]?=some (.arr 0 5 false [e.av]):=c3.2 _ _ _ _ _ (hlast _)
  obtain⟨H2,d1,d2,d3⟩:=hw H1 id _ c2 (by simp;omega)
  obtain⟨H3,buf,a1,a2,a3,a4⟩:=zfG d2 in87
  obtain⟨H4,buf',q1,q2,q3,q4⟩:=zhC a3 a2 [41] (by simp;omega)
  have hid:=(gEs.1 q4).1
  have ex1:=fun (x:AV)=>zeX (R:=W) (H:=H3) x (some false) 41 (by omega)
  refine⟨H4.set id (.bx 87 [.bptr id 0,buf']),?_,⟨_,buf',gEt hid,.inr rfl,?_⟩,((((zS.app _ _).trans c3).trans d3).trans a4).trans (q3.trans (zS.setN q4 (by simp)))⟩
  .have e41:UInt8.ofNat (41:Int).toNat=41:=rfl
   rw[e41]at ex1
   simp[zkB,zgJ,ze,zd,resV,rvVs,rvV,p1,hlt,hlast,c1,c4,d1,W_91,a1,a2,a3.okO,ex1,q1,q2.okO,q2.cells,q2.cell,q4, -getElem?_pos,gEz]
  .have:=q2.set (.bx 87 [.bptr id 0,buf'])
   have e40:UInt8.ofNat (40:Int).toNat=40:=rfl
   rw[e40]at this
   simpa using this
 .rw[if_neg hlt]at hl⊢
  obtain⟨H2,d1,d2,d3⟩:=hw _ id _ b1 hl
  refine⟨H2,?_,d2,(zS.app _ _).trans d3⟩
  simp[zkB,zgJ,ze,zd,resV,rvVs,rvV,p1,hlt,hlast,d1, -getElem?_pos,gEz]
theorem zeh {e:Ex} (h:zak e=0):(1≤e.kind∧e.kind≤4)∧(e.args.l.length:Int)=(if e.kind=3 then 1 else if e.kind=4 then 2 else 0)∧(0≤e.value∧e.value≤1099511627776)∧(e.kind=3→e.op=1∨e.op=2)∧(e.kind=2→isNm e.name=true):=by
 unfold zak at h
 split at h
 .cases h
 rename_i h1
 split at h
 .cases h
 rename_i h2
 split at h
 .cases h
 rename_i h3
 split at h
 .cases h
 rename_i h4
 split at h
 .cases h
 rename_i h5
 refine⟨by omega,?_,by omega,fun hk=>by omega,fun hk=>?_⟩
 .have h2':zbs e=true:=by simpa using h2
  unfold zbs at h2'
  rw[Bool.and_eq_true]at h2'
  exact of_decide_eq_true h2'.2
 .cases hn:isNm e.name with
  |true=>rfl
  |false=>exact absurd ⟨hk,hn⟩ h4
theorem zrb:∀(n:Nat) (e:Ex),e.size≤n→e.okP→WrOk e:=by
 intro n
 induction n with
 |zero=>
  intro e hn
  rw[Ex.size_eq]at hn
  omega
 |succ n ih=>
  intro e hn hp H id s hb hl
  obtain⟨hk,hlen,hv,ho,hnm⟩:=zeh (e.okP_self hp)
  have hsz:=Ex.size_eq e
  have iha:∀x∈e.args.l,ArOk x:=fun x hx=>zq6 (e.okP_arg hp hx) (ih x (by have:=Ex.mem_size hx;omega) (e.okP_arg hp hx))
  have b1:Bld (H++[.arr 0 5 false [e.av]]) id 87 [] s:=hb.app _
  have hlast:∀B,(H++[B])[H.length]?=some B:=zg _
  rw[e.tx_eq]at hl⊢
  unfold txN at hl⊢
  rw[zL Φ277]
  by_cases h1:e.kind=1
  .rw[if_pos h1]at hl⊢
   have p1:=e53 e.value (by omega)
   obtain⟨H1,c1,c2,c3⟩:=zbA b1 in87 (zcr e.value) hl
   refine⟨H1,?_,c2,(zS.app _ _).trans c3⟩
   simp[zfr,c277,zi,ze,zd,resV,rvVs,rvV,h1,hlast,p1,c1, -getElem?_pos,gEz]
  rw[if_neg h1]at hl⊢
  by_cases h2:e.kind=2
  .rw[if_pos h2]at hl⊢
   obtain⟨H1,c1,c2,c3⟩:=zbA b1 in87 e.name hl
   refine⟨H1,?_,c2,(zS.app _ _).trans c3⟩
   simp[zfr,c277,zi,ze,zd,resV,rvVs,rvV,h1,h2,hlast,c1, -getElem?_pos,gEz]
  rw[if_neg h2]at hl⊢
  by_cases h3:e.kind=3
  .rw[if_pos h3]at hl⊢
   rw[if_pos h3]at hlen
   obtain⟨x,hx⟩:∃x,e.args.l[0]?=some x:=⟨_,gEg (by omega)⟩
   rw[Ex.txs_at _ _ _ hx]at hl⊢
   simp only[List.length_cons]at hl
   obtain⟨H1,c1,c2,c3⟩:=zbA b1 in87 [if e.op=1 then 45 else 33] (by simp;omega)
   have c4:H1[H.length]?=some (.arr 0 5 false [e.av]):=c3.2 _ _ _ _ _ (hlast _)
   obtain⟨H2,d1,d2,d3⟩:=iha x (List.mem_of_getElem? hx) H1 id _ 6 c2 (by simp;omega)
   refine⟨H2,?_,by simpa using d2,((zS.app _ _).trans c3).trans d3⟩
   rcases ho h3 with h4|h4
   .rw[if_pos h4]at c1
    simp[zfr,c277,zi,ze,zd,resV,rvVs,rvV,h1,h2,h3,h4,hx,hlast,c1,c4,d1, -getElem?_pos,gEz]
   .rw[if_neg (by omega)]at c1
    simp[zfr,c277,zi,ze,zd,resV,rvVs,rvV,h1,h2,h3,h4,hx,hlast,c1,c4,d1, -getElem?_pos,gEz]
  .have h4:e.kind=4:=by omega
   rw[if_neg h3]at hl⊢
   rw[if_neg h3,if_pos h4]at hlen
   obtain⟨x,hx⟩:∃x,e.args.l[0]?=some x:=⟨_,gEg (by omega)⟩
   obtain⟨y,hy⟩:∃y,e.args.l[1]?=some y:=⟨_,gEg (by omega)⟩
   rw[Ex.txs_at _ _ _ hx,Ex.txs_at _ _ _ hy]at hl⊢
   simp only[List.length_append,List.length_cons,List.length_nil]at hl
   have hop:=znk hp h4
   have hf:=zdK hop
   have hpr:1≤zaW e.op∧zaW e.op≤5:=by unfold zaW;(repeat' split)<;>omega
   have hw:IntKind.wrap .i64 (zaW e.op+1)=zaW e.op+1:=by rw[zQ]<;>omega
   have hsg:=zeM e.op
   have b2:Bld (H++[.arr 0 5 false [e.av]]++[.arr 0 5 false [opV e.op]]) id 87 [] s:=b1.app _
   have hE:∀B C,(H++[B]++[C])[H.length]?=some B:=fun B C=>zw (zg _ _) _
   have hO:∀B C,(H++[B]++[C])[H.length+1]?=some C:=fun B C=>by
    rw[show H.length+1=(H++[B]).length by simp];exact zg _ _
   have hS:∀B C D,((H++[B]++[C]).set (H.length+1) D)=H++[B]++[D]:=fun B C D=>by
    rw[List.set_append,if_neg (by simp)];simp
   obtain⟨H1,c1,c2,c3⟩:=iha x (List.mem_of_getElem? hx) _ id _ (if zaW e.op=3 then 4 else zaW e.op) b2 (by omega)
   have c4:H1[H.length]?=some (.arr 0 5 false [e.av]):=c3.2 _ _ _ _ _ (hE _ _)
   have c5:H1[H.length+1]?=some (.arr 0 5 false [opV e.op]):=c3.2 _ _ _ _ _ (hO _ _)
   obtain⟨H2,d1,d2,d3⟩:=zbA c2 in87 (32::(zdm e.op++[32])) (by simp;omega)
   have d4:H2[H.length]?=some (.arr 0 5 false [e.av]):=d3.2 _ _ _ _ _ c4
   have d5:H2[H.length+1]?=some (.arr 0 5 false [opV e.op]):=d3.2 _ _ _ _ _ c5
   obtain⟨H3,f1,f2,f3⟩:=iha y (List.mem_of_getElem? hy) H2 id _ (zaW e.op+1) d2 (by simp;omega)
   refine⟨H3,?_,by simpa using f2,((((zS.app _ _).trans (zS.app _ _)).trans c3).trans d3).trans f3⟩
   have hw4:IntKind.wrap .i64 4=4:=rfl
   have hs0:(zdm e.op).length≤9223372036854775805:=by omega
   have hs1:1+(zdm e.op).length≤9223372036854775807:=by omega
   have hs2:(32::zdm e.op).length+1≤9223372036854775807:=by simp;omega
   simp only[opV]at *
   generalize zaW e.op=pr at *
   by_cases h5:pr=3
   .subst h5
    rw[if_pos rfl]at c1
    rw[show (3:Int)+1=4 from rfl]at f1
    simp[zfr,c277,zi,ze,zd,resV,rvVs,rvV,zV,h1,h2,h3,h4,hx,hy,e211,hf,hlast,hE,hO,hS,c1,c4,c5,d1,d4,d5,f1,hw4,hs0,hs1,hs2, -getElem?_pos,gEz, -List.append_assoc]
   .rw[if_neg h5]at c1
    simp[zfr,c277,zi,ze,zd,resV,rvVs,rvV,zV,h1,h2,h3,h4,h5,hw,hx,hy,e211,hf,hlast,hE,hO,hS,c1,c4,c5,d1,d4,d5,f1,hw4,hs0,hs1,hs2, -getElem?_pos,gEz, -List.append_assoc]
theorem zhg:∀(k u:Nat),u<10 ^ (k+1)→Lib.nDigits u≤k+1
 |0,u,h=>by rw[Lib.nDigits_small (by simpa using h)];exact Nat.le_refl _
 |k+1,u,h=>by
  by_cases h1:u<10
  .rw[Lib.nDigits_small h1];omega
  .rw[Lib.nDigits_big h1]
   have:=zhg k (u/10) (by rw[Nat.pow_succ]at h;omega)
   omega
theorem zbd (n:Int) (h: -1099511627776≤n∧n≤1099511627776):(zcr n).length≤14:=by
 unfold zcr
 split
 .unfold dec2;split<;>simp
 .unfold Lib.itoa
  split
  .rw[List.length_cons,Lib.decDigits_length]
   have:=zhg 12 n.natAbs (by omega)
   omega
  .rw[Lib.decDigits_length]
   have:=zhg 12 n.toNat (by omega)
   omega
theorem zh0 {s:List UInt8} (h:isNm s=true):s.length≤30:=by
 unfold isNm at h
 simp only[Bool.and_eq_true,decide_eq_true_eq]at h
 exact h.2
theorem zne:∀(n:Nat) (e:Ex),e.size≤n→e.okP→e.tx.length+60≤100* e.size:=by
 intro n
 induction n with
 |zero=>
  intro e hn
  rw[Ex.size_eq]at hn
  omega
 |succ n ih=>
  intro e hn hp
  obtain⟨hk,hlen,hv,ho,hnm⟩:=zeh (e.okP_self hp)
  have hsz:=Ex.size_eq e
  have iha:∀x∈e.args.l,x.tx.length+60≤100* x.size:=fun x hx=>ih x (by have:=Ex.mem_size hx;omega) (e.okP_arg hp hx)
  have hpar:∀lim p,(parT lim p).length≤p.1.length+2:=fun lim p=>by unfold parT;split<;>simp
  rw[e.tx_eq]
  unfold txN
  by_cases h1:e.kind=1
  .rw[if_pos h1]
   have:=zbd e.value (by omega)
   omega
  rw[if_neg h1]
  by_cases h2:e.kind=2
  .rw[if_pos h2]
   have:=zh0 (hnm h2)
   omega
  rw[if_neg h2]
  by_cases h3:e.kind=3
  .rw[if_pos h3]
   rw[if_pos h3]at hlen
   obtain⟨x,hx⟩:∃x,e.args.l[0]?=some x:=⟨_,gEg (by omega)⟩
   rw[Ex.txs_at _ _ _ hx]
   have q1:=iha x (List.mem_of_getElem? hx)
   have q2:=Ex.mem_size (List.mem_of_getElem? hx)
   have q3:=hpar 6 (x.tx,zcw x)
   simp only[List.length_cons]at q3⊢
   omega
  .have h4:e.kind=4:=by omega
   rw[if_neg h3]
   rw[if_neg h3,if_pos h4]at hlen
   have hsg:=zeM e.op
   obtain⟨x,y,hxy⟩:∃x y,e.args.l=[x,y]:=by
    generalize e.args.l=l at hlen
    match l,hlen with
    | [x,y],_=>exact⟨x,y,rfl⟩
    | [],h=>simp at h
    | [_],h=>simp at h
    |_::_::_::_,h=>simp at h;omega
   rw[hxy]at hsz iha⊢
   have q1:=iha x (by simp)
   have q2:=iha y (by simp)
   have q3:=hpar (if zaW e.op=3 then 4 else zaW e.op) (x.tx,zcw x)
   have q4:=hpar (zaW e.op+1) (y.tx,zcw y)
   rw[Ex.txs_at [x,y] 0 x rfl,Ex.txs_at [x,y] 1 y rfl]
   simp only[Ex.sizes]at hsz
   simp only[List.length_append,List.length_cons,List.length_nil]at q3 q4⊢
   omega
def zbk (e:Ex):List UInt8:=if zaf e=0 then e.tx else []
theorem znl {e:Ex} (h:zaf e=0):e.okP:=by
 unfold zaf at h
 split at h
 .cases h
 .split at h
  .cases h
  .exact fun x hx=>zbO.1 h x hx
theorem e231 (e:Ex):W.pure 231 [e.av]=some (.tuple [.str (zbk e),I (zaf e)]):=by
 rw[zG Φ231 (by simp)]
 have c1:=e153 e
 unfold zbk
 by_cases hz:zaf e=0
 .rw[if_pos hz,hz]
  rw[hz]at c1
  have hp:=znl hz
  have hs:=zcU hz
  have hl:=zne e.size e (Nat.le_refl _) hp
  have hb:Bld [.arr 0 5 false [e.av],.bx 87 [.nilp,.isl (some true) 0 []]] 1 87 [] []:=⟨_,_,rfl,.inl rfl,.inl ⟨rfl,rfl⟩⟩
  obtain⟨H1,d1,d2,d3⟩:=zrb e.size e (Nat.le_refl _) hp _ 1 [] hb (by simp[zE];omega)
  obtain⟨H2,f1⟩:=zlb d2 in87 (by simp;omega)
  simp only[List.nil_append]at f1
  simp[zkC,c231,zi,ze,zd,resV,rvVs,rvV,c1,d1,f1, -getElem?_pos,gEz]
 .rw[if_neg hz]
  simp[zkC,c231,zi,ze,zd,resV,rvVs,rvV,c1,hz, -getElem?_pos,gEz]
theorem e194 (e:Ex):W.pure 194 [e.av]=some (.str (zbk e)):=by
 rw[zG Φ194 (by simp)]
 simp[zmx,c194,zi,ze,zd,resV,rvVs,rvV,e231 e, -getElem?_pos,gEz]
end
end Go.Proofs.YtgamobngbenehaaGreatDoor
