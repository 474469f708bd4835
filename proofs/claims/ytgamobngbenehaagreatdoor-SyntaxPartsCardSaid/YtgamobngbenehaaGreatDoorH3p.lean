/-
  The lines of statements without their blocks (conditions: none).
-/
import Derived.Test.YtgamobngbenehaaGreatDoorBBp
import Derived.Test.YtgamobngbenehaaGreatDoorH2p
import Derived.Test.YtgamobngbenehaaGreatDoorBDp
namespace Go.Proofs.YtgamobngbenehaaGreatDoor
open Go Go.RowKit
set_option linter.unusedVariables false
set_option linter.unusedSimpArgs false
set_option maxRecDepth 10000
set_option maxHeartbeats 4000000
theorem zbx (e:Ex):(zbk e).length≤10000:=by
 unfold zbk
 split
 .rename_i h
  have h1:=zcU h
  have h2:=zne e.size e (Nat.le_refl _) (znl h)
  omega
 .simp
def comT (l:List (List UInt8)):List UInt8:=zbw [44,32] l
theorem zgm (sep:List UInt8) (B:Nat):∀l:List (List UInt8),(∀s∈l,s.length≤B)→(zbw sep l).length≤l.length* (B+sep.length)
 | [],_=>by simp[zbw]
 | [x],h=>by
  have:=h x (by simp)
  simp only[zbw,List.length_cons,List.length_nil];omega
 |x::y::r,h=>by
  have h1:=h x (by simp)
  have h2:=zgm sep B (y::r) (fun s hs=>h s (by simp[hs]))
  simp only[zbw,List.length_append,List.length_cons,Nat.add_mul,Nat.one_mul]at h2⊢
  omega
theorem zia {B:Nat} {l:List (List UInt8)} (h:∀s∈l,s.length≤B):(comT l).length≤l.length* (B+2):=zgm _ B l h
theorem w52 (v:AV) (l:List (List UInt8)) (sep:List UInt8) (nl:Option Bool) (z:Nat) (hv:v= .isl nl z (l.map AV.str)) (hj:(zbw sep l).length≤1073741824∧l.length≤1073741824):W.pure 52 [v,.str sep]=some (.str (zbw sep l)):=by
 subst hv
 rw[zpC (by kernel_rfl) rfl (by simp)]
 simp only[zmj,zce]
 rw[if_pos hj]
theorem w52s (x:Sl (List UInt8)) (sep:List UInt8) (hj:(zbw sep x.l).length≤1073741824∧x.l.length≤1073741824):W.pure 52 [Sl.av AV.str 1 x,.str sep]=some (.str (zbw sep x.l)):=w52 _ x.l sep _ _ rfl hj
def exsT (l:List Ex):List UInt8:=comT (l.map zbk)
theorem zcS {l:List Ex} (h:l.length≤100):(exsT l).length≤1000200:=by
 have:=zia (B:=10000) (l:=l.map zbk) (fun s hs=>by obtain⟨e,_,rfl⟩:=List.mem_map.1 hs;exact zbx e)
 rw[List.length_map]at this
 unfold exsT
 omega
section
attribute [local irreducible] okC okV
theorem w192 (x:Sl Ex) (hl:x.l.length≤100):W.pure 192 [Sl.av Ex.av 5 x]=some (.str (exsT x.l)):=by
 rw[zG Φ192 (by simp)]
 have hL:∀(r:List Ex) (j:Nat) (o:Option Nat) (v:AV) (G:Heap),x.l.drop j=r→j≤x.l.length→Grow G 1 o v (((x.l.take j).map zbk).map AV.str)→(∀k,o=some k→k<G.length)→
   okC (W.loop [3,6,7,8] zkb [(3,v),(6,Sl.av Ex.av 5 x),(7,I x.l.length),(8,I j)] G) (fun y F G'=>y= .exit 0∧∃o' v',F.keep [3]=[(3,v')]∧Grow G' 1 o' v' ((x.l.map zbk).map AV.str)):=by
  intro r
  induction r with
  |nil=>
   intro j o v G h1 h2 h3 h4
   have hj:=zn h1 h2
   have ht:x.l.take j=x.l:=by rw[←hj];exact List.take_length
   rw[ht]at h3
   have hgo:=h3.okO
   rw[zp]
   simp[zh7,zif,zd,hj,hgo, -getElem?_pos,gEz]
   exact⟨o,by simpa using h3⟩
  |cons e r ih=>
   intro j o v G h1 h2 h3 h4
   obtain⟨hlt,he,hr⟩:=zF h1
   have hlt':(j:Int)<x.l.length:=by omega
   have hw:=zaa (k:=j) (by omega)
   have htk:x.l.take (j+1)=x.l.take j++[e]:=by rw[List.take_add_one,he];rfl
   have hlast:∀C,(G++[C])[G.length]?=some C:=zg _
   have hset:∀C D,((G++[C]).set G.length D)=G++[D]:=fun C D=>by simp
   have h3':Grow (G++[.arr 0 5 false [e.av]]) 1 o v (((x.l.take j).map zbk).map AV.str):=h3.kept (Kept.append none _ _) (by simp)
   obtain⟨o1,v1,G1,a1,a2,a3,a4,a5⟩:=h3'.app (y:= .isl (some false) 1 [.str (zbk e)]) (xs:=[.str (zbk e)]) (by simp) (by simp) (by simp only[List.length_map,List.length_take,List.length_cons,List.length_nil,zE];omega)
   have hg2:Grow G1 1 o1 v1 (((x.l.take (j+1)).map zbk).map AV.str):=by
    rw[htk];simpa using a2
   have hJ:=ih (j+1) o1 v1 G1 hr (by omega) hg2 (fun k hk=>a5 k hk)
   simp only[Int.natCast_add,Int.cast_ofNat_Int]at hJ
   obtain⟨y,F',H',g1,rfl,o2,v2,g2,g3⟩:=zr.1 hJ
   have hgo:=h3.okO
   have hgc:=h3.cells
   have a2o:=a2.okO
   have a2c:=a2.cells
   rw[zp]
   simp[zh7,zif,zd,hlt,he,hw,hgo,hgc,hlast,hset,e194 e,a1,a2o,a2c,g1, -getElem?_pos,gEz, -List.append_assoc]
   exact⟨o2,by
    have:F'.get 3=v2:=by simpa using g2
    rw[this];simpa using g3⟩
 obtain⟨y,F,G,f1,rfl,o,v,f2,f3⟩:=zr.1 (hL x.l 0 none (.isl (some true) 0 []) [] rfl (by omega) ⟨rfl,rfl⟩ (by simp))
 have hfz:=f3.frz (n:=7) (zjl _)
 have hlen:=zcS hl
 have hj:(zbw [44,32] (x.l.map zbk)).length≤1073741824∧(x.l.map zbk).length≤1073741824:=by
  unfold exsT comT at hlen
  simp only[List.length_map];omega
 have hgo:=f3.okO
 simp only[Int.natCast_zero]at f1
 have hp:W.pure 52 [(if o=none then .isl (some true) 0 [] else .isl (some false) 1 ((x.l.map zbk).map AV.str)),.str [44,32]]=some (.str (exsT x.l)):=by
  by_cases ho:o=none
  .subst ho
   have h0:(x.l.map zbk).map AV.str=[]:=f3.2
   have h00:x.l.map zbk=[]:=List.map_eq_nil_iff.1 h0
   rw[if_pos rfl]
   have:=w52 (.isl (some true) 0 []) (x.l.map zbk) [44,32] (some true) 0 (by rw[h00];rfl) hj
   exact this
  .rw[if_neg ho]
   exact w52 _ (x.l.map zbk) [44,32] _ _ rfl hj
 simp[zmy,c192,zi,ze,zd,resV,rvVs,rvV,f1,f2,hgo,hfz,hp, -getElem?_pos,gEz, -List.map_map]
def behT (l:List (List UInt8)):List UInt8:=if l=[] then [] else [32,97,115,32]++comT l
def ziH (l:List (List UInt8)):Prop:=l.length≤100∧∀s∈l,s.length≤100
theorem zdX {l:List (List UInt8)} (h:ziH l):(comT l).length≤10200:=by
 have:=zia h.2
 have:=h.1
 omega
theorem zdZ {l:List (List UInt8)} (h:ziH l):(behT l).length≤10204:=by
 have:=zdX h
 unfold behT
 split
 .simp
 .simp;omega
theorem w193 (x:Sl (List UInt8)) (h:ziH x.l):W.pure 193 [Sl.av AV.str 1 x]=some (.str (behT x.l)):=by
 rw[zG Φ193 (by simp)]
 have hc:=zdX h
 have hp:=w52s x [44,32] (by unfold comT at hc;have:=h.1;omega)
 have hd:zbw [44,32] x.l=comT x.l:=rfl
 rw[hd]at hp
 unfold behT
 by_cases hn:x.l=[]
 .simp[zkG,c193,zi,ze,zd,resV,rvVs,rvV,hn, -getElem?_pos,gEz]
 .have hle:4+(comT x.l).length≤9223372036854775807:=by omega
  have hle2:(comT x.l).length≤9223372036854775803:=by omega
  simp[zkG,c193,zi,ze,zd,resV,rvVs,rvV,zV,hn,hp,hle,hle2, -getElem?_pos,gEz]
def tabT (l:List (Int×List UInt8)) (n:Int):List UInt8:=match l with| []=> []|p::r=>if n=p.1 then p.2 else tabT r n
theorem zhI (n:Int):∀(l:List (Int×List UInt8)) (i:Nat),(match zbM 0 (.int .i64 n) ((l.map fun p=>I p.1).zip (l.map fun p=>AV.str p.2)) i with|some (some p)=>p.2|some none=>AV.str []|none=>AV.bad)= .str (tabT l n)
 | [],i=>rfl
 |p::r,i=>by
  have ih:=zhI n r (i+1)
  simp only[List.map_cons,List.zip_cons_cons,zgy,tabT]
  by_cases h:n=p.1
  .simp[h]
  .rw[if_neg h,if_neg h];exact ih
theorem zdM (l:List (Int×List UInt8)) (n:Int) (H:Heap):zcO H 0 false (.str []) (.imap (l.map fun p=>I p.1) (l.map fun p=> .str p.2)) (I n)= .str (tabT l n):=by
 have h:=zhI n l 0
 rw[ziJ,ziO]
 revert h
 generalize zbM 0 (.int .i64 n) ((l.map fun p=>I p.1).zip (l.map fun p=>AV.str p.2)) 0=q
 intro h
 cases q with
 |none=>simp at h
 |some o=>cases o<;>simpa using h
def wdT:List (Int×List UInt8):=[(1,[108,101,116]),(3,[105,102]),(4,[119,104,105,108,101]),(5,[114,101,112,101,97,116]),(6,[114,101,116,117,114,110]),(7,[102,97,105,108]),(8,[97,115,115,101,114,116]),(9,[101,109,105,116]),(10,[115,108,101,101,112]),
 (11,[121,105,101,108,100]),(12,[99,104,101,99,107,112,111,105,110,116]),(13,[99,97,110,99,101,108]),(15,[109,97,115,107]),(16,[115,112,97,119,110]),(17,[99,97,108,108]),(18,[100,101,102,101,114]),(20,[115,101,108,101,99,116]),(21,[97,100,100]),(22,[115,119,97,112]),(23,[98,101,103,105,110]),(24,[101,110,100])]
def dwT:List (Int×List UInt8):=[(101,[118,97,114]),(102,[97,116,111,109,105,99]),(1,[109,117,116,101,120]),(2,[114,119,108,111,99,107]),(9,[102,117,116,117,114,101]),(3,[99,111,110,100]),(4,[115,101,109,97,112,104,111,114,101]),(5,[98,97,114,114,105,101,114]),(6,[99,104,97,110,110,101,108]),(7,[116,111,112,105,99]),(8,[108,105,109,105,116,101,114])]
def wdV:AV:= .imap (wdT.map fun p=>I p.1) (wdT.map fun p=> .str p.2)
def dwV:AV:= .imap (dwT.map fun p=>I p.1) (dwT.map fun p=> .str p.2)
theorem zdA:W.pure 191 []=some wdV:=(zah 60).pure _ _ _ (by kernel_rfl)
theorem e71w:W.pure 71 []=some dwV:=(zah 60).pure _ _ _ (by kernel_rfl)
def zeq (n:Int):List UInt8:=tabT wdT n
def zh9 (n:Int):List UInt8:=tabT dwT n
theorem zfd {B:Nat} (n:Int):∀l:List (Int×List UInt8),(∀p∈l,p.2.length≤B)→(tabT l n).length≤B
 | [],_=>by simp[tabT]
 |p::r,h=>by
  unfold tabT
  split
  .exact h p (by simp)
  .exact zfd n r (fun q hq=>h q (by simp[hq]))
theorem zcD (n:Int):(zeq n).length≤100:=zfd n _ (by decide)
theorem ze0 (n:Int):(zh9 n).length≤100:=zfd n _ (by decide)
theorem zjQ (n:Int):((opOf n).getD opZ).word.length≤100:=by
 unfold opOf
 cases h:opT.find? fun o=>decide (o.op=n) with
 |none=>simp[opZ]
 |some o=>
  have h1:=List.mem_of_find?_eq_some h
  have h2:∀o∈opT,o.word.length≤100:=by decide+kernel
  exact h2 o h1
def simT (x:St):List UInt8:=
 if x.kind=2 then x.name++[32,61,32]++exsT x.exprs.l
 else if x.kind=1 then zeq x.kind++[32]++x.name++[32,61,32]++exsT x.exprs.l
 else if x.kind=11∨x.kind=12∨x.kind=13 then zeq x.kind
 else if x.kind=16∨x.kind=17∨x.kind=18 then zeq x.kind++[32]++x.name++[40]++exsT x.exprs.l++[41]++behT x.names.l
 else (if x.kind=19 then ((opOf x.op).getD opZ).word else zeq x.kind)++[32]++(if ¬x.name=[]∧¬exsT x.exprs.l=[] then x.name++[44,32]++exsT x.exprs.l else x.name++exsT x.exprs.l)++behT x.names.l
structure St.sm (x:St):Prop where
 name:x.name.length≤100
 exprs:x.exprs.l.length≤100
 names:ziH x.names.l
theorem zac {a b:List UInt8} (h:a.length+b.length≤9223372036854775807):zV .add a b= .str (a++b):=by unfold zV;rw[if_pos h]
theorem zeB (a b:List UInt8):zV .neq a b= .bool (!decide (a=b)):=rfl
theorem zsU (a b:List UInt8) (ha:a.length≤100000) (hb:b.length≤2000000):W.pure 52 [.isl (some false) 1 [.str a,.str b],.str [32]]=some (.str (a++([32]++b))):=by
 have:=w52 (.isl (some false) 1 [.str a,.str b]) [a,b] [32] (some false) 1 rfl (by simp[zbw];omega)
 simpa[zbw]using this
theorem w158 (x:St) (h:x.sm):W.pure 158 [x.av]=some (.str (simT x)):=by
 rw[zG Φ158 (by simp)]
 have c1:=w192 x.exprs h.exprs
 have c2:=w193 x.names h.names
 have c3:=e185 x.op
 have n1:=zcS h.exprs
 have n2:=zdZ h.names
 have n3:=zcD x.kind
 have n4:=zjQ x.op
 have n5:=h.name
 have hm:∀H n,zcO H 0 false (.str []) wdV (I n)= .str (zeq n):=fun H n=>zdM wdT n H
 have ho:okO wdV=some wdV:=rfl
 unfold simT
 generalize exsT x.exprs.l=tx at *
 generalize behT x.names.l=tb at *
 generalize hop:(opOf x.op).getD opZ=o at *
 by_cases h2:x.kind=2
 .simp (disch:=(first|omega|(simp only[List.length_append,List.length_cons,List.length_nil];omega))) [zeg,c158,zi,ze,zd,resV,rvVs,rvV,zac,zdA,ho,hm,h2,c1, -getElem?_pos,gEz]
 rw[if_neg h2]
 by_cases h1:x.kind=1
 .rw[if_pos h1]
  rw[h1]at n3
  simp (disch:=(first|omega|(simp only[List.length_append,List.length_cons,List.length_nil];omega))) [zeg,c158,zi,ze,zd,resV,rvVs,rvV,zac,zdA,ho,hm,h1,h2,c1, -getElem?_pos,gEz]
 rw[if_neg h1]
 by_cases h3:x.kind=11∨x.kind=12∨x.kind=13
 .rw[if_pos h3]
  rcases h3 with h3|h3|h3<;>rw[h3]at n3<;>
  simp (disch:=(first|omega|(simp only[List.length_append,List.length_cons,List.length_nil];omega))) [zeg,c158,zi,ze,zd,resV,rvVs,rvV,zac,zdA,ho,hm,h1,h2,h3, -getElem?_pos,gEz]
 rw[if_neg h3]
 have q1:¬x.kind=11:=fun e=>h3 (.inl e)
 have q2:¬x.kind=12:=fun e=>h3 (.inr (.inl e))
 have q3:¬x.kind=13:=fun e=>h3 (.inr (.inr e))
 by_cases h4:x.kind=16∨x.kind=17∨x.kind=18
 .rw[if_pos h4]
  rcases h4 with h4|h4|h4<;>rw[h4]at n3<;>
  simp (disch:=(first|omega|(simp only[List.length_append,List.length_cons,List.length_nil];omega))) [zeg,c158,zi,ze,zd,resV,rvVs,rvV,zac,zdA,ho,hm,h1,h2,q1,q2,q3,h4,c1,c2, -getElem?_pos,gEz]
 rw[if_neg h4]
 have q4:¬x.kind=16:=fun e=>h4 (.inl e)
 have q5:¬x.kind=17:=fun e=>h4 (.inr (.inl e))
 have q6:¬x.kind=18:=fun e=>h4 (.inr (.inr e))
 have hj:∀w:List UInt8,w.length≤100→∀b:List UInt8,b.length≤2000000→W.pure 52 [.isl (some false) 1 [.str w,.str b],.str [32]]=some (.str (w++([32]++b))):=fun w hw b hb=>zsU w b (by omega) hb
 by_cases h5:x.kind=19
 .have a1:∀b,ex [.arr 0 8 false [x.av],.arr 0 4 false [o.av],.arr 0 1 false [.str o.word]] (.app 1) [.osl 2 0 0 1,.isl (some false) 1 [.str b]]=some (.osl 2 1 0 2,[.arr 0 8 false [x.av],.arr 0 4 false [o.av],.arr 1 1 false [.str o.word,.str b]]):=fun b=>rfl
  have a2:∀b,frz [.arr 0 8 false [x.av],.arr 0 4 false [o.av],.arr 1 1 false [.str o.word,.str b]] 8 (.osl 2 1 0 2)=some (.isl (some false) 1 [.str o.word,.str b]):=fun b=>rfl
  by_cases h6:¬x.name=[]∧¬tx=[]
  .simp (disch:=(first|omega|(simp only[List.length_append,List.length_cons,List.length_nil];omega))) [zeg,c158,zi,ze,zd,resV,rvVs,rvV,zac,zeB,zdA,ho,hm,h1,h2,q1,q2,q3,q4,q5,q6,h5,h6,c1,c2,c3,a1,a2,hj, -getElem?_pos,gEz]
  .have h7:(!decide (x.name=[])&& !decide (tx=[]))=false:=by
    cases hx:decide (x.name=[])<;>cases ht:decide (tx=[])<;>simp_all
   rw[if_neg h6]
   simp (disch:=(first|omega|(simp only[List.length_append,List.length_cons,List.length_nil];omega))) [zeg,c158,zi,ze,zd,resV,rvVs,rvV,zac,zeB,zdA,ho,hm,h1,h2,q1,q2,q3,q4,q5,q6,h5,h7,c1,c2,c3,a1,a2,hj, -getElem?_pos,gEz]
 .clear hm
  generalize htw:zeq x.kind=tw at *
  have htw:=htw.symm
  have a1:∀b,ex [.arr 0 8 false [x.av],.arr 0 1 false [.str tw]] (.app 1) [.osl 1 0 0 1,.isl (some false) 1 [.str b]]=some (.osl 1 1 0 2,[.arr 0 8 false [x.av],.arr 1 1 false [.str tw,.str b]]):=fun b=>rfl
  have a2:∀b,frz [.arr 0 8 false [x.av],.arr 1 1 false [.str tw,.str b]] 8 (.osl 1 1 0 2)=some (.isl (some false) 1 [.str tw,.str b]):=fun b=>rfl
  have hm:∀H,zcO H 0 false (.str []) wdV (I x.kind)= .str tw:=fun H=>by rw[htw];exact zdM wdT x.kind H
  by_cases h6:¬x.name=[]∧¬tx=[]
  .simp (disch:=(first|omega|(simp only[List.length_append,List.length_cons,List.length_nil];omega))) [zeg,c158,zi,ze,zd,resV,rvVs,rvV,zac,zeB,zdA,ho,hm,h1,h2,q1,q2,q3,q4,q5,q6,h5,h6,c1,c2,a1,a2,hj, -getElem?_pos,gEz]
  .have h7:(!decide (x.name=[])&& !decide (tx=[]))=false:=by
    cases hx:decide (x.name=[])<;>cases ht:decide (tx=[])<;>simp_all
   rw[if_neg h6]
   simp (disch:=(first|omega|(simp only[List.length_append,List.length_cons,List.length_nil];omega))) [zeg,c158,zi,ze,zd,resV,rvVs,rvV,zac,zeB,zdA,ho,hm,h1,h2,q1,q2,q3,q4,q5,q6,h5,h7,c1,c2,a1,a2,hj, -getElem?_pos,gEz]
end
end Go.Proofs.YtgamobngbenehaaGreatDoor
