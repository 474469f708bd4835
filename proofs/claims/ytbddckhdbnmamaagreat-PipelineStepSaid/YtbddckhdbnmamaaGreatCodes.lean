/-
  From the model's operations to light ones, and what each does (conditions: none).
-/
import Derived.Test.YtbddckhdbnmamaaGreatFrzs
import Derived.Test.YtbddckhdbnmamaaGreatMem3s
namespace Go.Proofs.YtbddckhdbnmamaaGreat
open Go Go.RowKit
set_option linter.unusedVariables false
set_option linter.unusedSimpArgs false
def srcs:List Operand→Option (List Src)
 | []=>some []
 |x::r=>match zeI x,srcs r with|some s,some ss=>some (s::ss)|_,_=>none
def zwW:Operand→Bool| .const (.slice none 0 0)=>true|_=>false
def zwX:Operand→Bool| .const (.pointer none)=>true|_=>false
def zcf (P:Program) (op:BinOp) (t:TypeId) (x y:Operand):Option (OpK×List Src):=
 let eq:Option Bool:=match op with| .eql=>some false| .neq=>some true|_=>none
 match P.underlying t with
 |some (.int _)=>(srcs [x,y]).map (OpK.bin op,·)
 |some .string=>(srcs [x,y]).map (OpK.bin op,·)
 |some .bool=>eq.bind fun n=>(srcs [x,y]).map (OpK.eqb n,·)
 |some (.struct fs)=>eq.bind fun n=>if P.stoodInHeld t=false∧P.eqGuardType P.depth t=false then (zlY P 0 fs.toList).bind fun qs=>(srcs [x,y]).map (OpK.eqs n qs,·) else none
 |some (.array len e)=>eq.bind fun n=>(P.info? e).bind fun i=>if P.cellsOf e=1∧P.eqGuardType P.depth t=false then (zir P e).bind fun q=>(srcs [x,y]).map (OpK.eqs n (List.replicate len q),·) else none
 |some (.slice _)=>eq.bind fun n=>if zwW y then (srcs [x]).map (OpK.eqn false n,·) else none
 |some (.pointer _)=>eq.bind fun n=>if zwX y then (srcs [x]).map (OpK.eqn true n,·) else none
 |_=>none
def places (P:Program) (fs:Array Field):List Nat→Option (List (Nat×Nat))
 | []=>some []
 |i::r=>match zh6 P fs i,places P fs r with|some p,some ps=>some (p::ps)|_,_=>none
def isZ:Option Operand→Bool|some (.const (.int _ 0))=>true|_=>false
theorem isZ_eq {o:Option Operand} (h:isZ o=true):∃k,o=some (.const (.int k 0)):=by
 unfold isZ at h;split at h
 .exact⟨_,rfl⟩
 .cases h
def lite (P:Program) (o:Oper):Option (OpK×List Src):=
 match o.op with
 | .move x=>(srcs [x]).map (OpK.mv,·)
 | .assign x=>(srcs [x]).map (OpK.mv,·)
 | .binOp op t x y _=>zcf P op t x y
 | .unOp .not _ x=>(srcs [x]).map (OpK.not,·)
 | .unOp .neg _ x=>(srcs [x]).map (OpK.neg,·)
 | .convert s d x=>match P.underlying s,P.underlying d with
  |some (.int _),some (.int k)=>(srcs [x]).map (OpK.conv k,·)
  |_,_=>none
 | .load t x=>match aggT P t,szT P t with|some g,some n=>(srcs [x]).map (OpK.load false g n,·)|_,_=>none
 | .fieldAddr s x f=>match fldT P s f with|some (off,_)=>(srcs [x]).map (OpK.fld off,·)|none=>none
 | .field s x f=>match P.underlying s with
  |some (.struct fs)=>match fs[f]? with
   |some fd=>match aggT P fd.type,szT P fd.type with|some g,some n=>(srcs [x]).map (OpK.fldv g n fd.offset,·)|_,_=>none
   |none=>none
  |_=>none
 | .indexAddr t x i=>match P.underlying t with
  |some (.slice e)=>match szT P e with|some sz=>(srcs [x,i]).map (OpK.idxa false sz,·)|none=>none
  |some (.array n e)=>match szT P e with|some sz=>(srcs [x,i]).map (OpK.idxp n sz,·)|none=>none
  |_=>none
 | .index t x i=>match P.underlying t with|some .string=>(srcs [x,i]).map (OpK.idxs,·)|_=>none
 | .extract x i=>(srcs [x]).map (OpK.ext i,·)
 | .nilCheck x=>(srcs [x]).map (OpK.nilchk,·)
 | .build t parts=>match P.underlying t,zdo P t with
  |some (.struct fs),some (.agg zv)=>if fs.toList.all (fun f=>(szT P f.type).isSome) then (match places P fs (parts.toList.map (·.1)) with|some ps=>(srcs (parts.toList.map (·.2))).map (OpK.bld (zv.toList.map ofV1) ps,·)|none=>none) else none
  |some (.array _ e),some (.agg zv)=>(szT P e).bind fun sz=>(srcs (parts.toList.map (·.2))).map (OpK.bld (zv.toList.map ofV1) ((parts.toList.map (·.1)).map fun i=>(i* sz,sz)),·)
  |_,_=>none
 | .makeFunc (.func f) fs cs=>(srcs (fs.toList++cs.toList)).map (OpK.clo f fs.size,·)
 | .slice t x lo hi none=>match P.underlying t with
  |some (.slice e)=>match szT P e with|some sz=>(srcs (x::(lo.toList++hi.toList))).map (OpK.slc false false sz lo.isSome hi.isSome,·)|none=>none
  |some .string=>(srcs (x::(lo.toList++hi.toList))).map (OpK.slc false true 1 lo.isSome hi.isSome,·)
  |_=>none
 | .slice t x lo hi (some m)=>none
 | .alloc t=>match szT P t,zdo P t with|some sz,some zv=>some (.box sz,[.c (ofV zv)])|_,_=>none
 | .box t x=>match szT P t with|some sz=>(srcs [x]).map (OpK.box sz,·)|none=>none
 | .buildSlice t len parts=>match P.underlying t with
  |some (.slice e)=>match szT P e,zdo P e with|some sz,some zv=>(srcs (parts.toList.map (·.2))).map (OpK.bsl false sz len (ofV zv) (parts.toList.map (·.1)),·)|_,_=>none
  |_=>none
 | .makeSlice t x y=>match P.underlying t with
  |some (.slice e)=>(P.info? e).bind fun i=>i.zero.bind fun zv=>if i.bytes≤65536 then (srcs [x,y]).map (OpK.mksl i.size (ofV zv),·) else none
  |_=>none
 | .makeMap _ none=>(srcs []).map (OpK.mkmap,·)
 | .range t x=>match P.underlying t with|some .string=>(srcs [x]).map (OpK.rngs,·)|_=>none
 | .next x true=>(srcs [x]).map (OpK.nxt,·)
 | .insert t m k x=>match P.underlying t with
  |some (.map kt _)=>(P.underlying kt).bind fun d=>(keyQ d).bind fun q=>(srcs [m,k,x]).map (OpK.mput q,·)
  |_=>none
 | .mapUpdate t m k x=>match P.underlying t with
  |some (.map kt _)=>(P.underlying kt).bind fun d=>(keyQ d).bind fun q=>(srcs [m,k,x]).map (OpK.mput q,·)
  |_=>none
 | .lookup t m k ok=>match P.underlying t with
  |some (.map kt et)=>(P.underlying kt).bind fun d=>(keyQ d).bind fun q=>(zdo P et).bind fun zv=>(srcs [m,k]).map (OpK.mget q ok (ofV zv),·)
  |_=>none
 | .store t a x=>match szT P t with|some n=>(srcs [a,x]).map (OpK.store n,·)|none=>none
 | .call c=>match c.callee with
  | .builtin .len=>match c.argTypes[0]?,c.args.toList with
   |some t,[x]=>match P.underlying t with|some .string=>(srcs [x]).map (OpK.len true,·)|some (.slice _)=>(srcs [x]).map (OpK.len false,·)|_=>none
   |_,_=>none
  | .builtin .append=>match c.argTypes.toList,c.args.toList with
   | [t,t'],[x,y]=>if t=t' then (match P.underlying t with
    |some (.slice e)=>match P.info? e with
     |some i=>match i.zero with|some zv=>if zv.cells.size=i.size∧i.bytes≤65536 then (srcs [x,y]).map (OpK.app i.size,·) else none|none=>none
     |none=>none
    |_=>none) else none
   |_,_=>none
  | .builtin .min=>match c.args.toList with
   | [x,y]=>(srcs [x,y]).map (OpK.mn,·)
   |_=>none
  | .builtin .max=>match c.args.toList with
   | [x,y]=>(srcs [x,y]).map (OpK.mx,·)
   | [x,y,z]=>(srcs [x,y,z]).map (OpK.mx,·)
   |_=>none
  | .builtin .clear=>match c.argTypes.toList,c.args.toList with
   | [t],[x]=>match P.underlying t with
    |some (.slice e)=>(zdo P e).bind fun zv=>(szT P e).bind fun sz=>(srcs [x]).map (OpK.clr sz (ofV zv),·)
    |_=>none
   |_,_=>none
  | .builtin .copy=>match c.argTypes.toList,c.args.toList with
   | [t,_],[x,y]=>match P.underlying t with
    |some (.slice e)=>if szT P e=some 1 then (srcs [x,y]).map (OpK.cpy,·) else none
    |_=>none
   |_,_=>none
  | .value (.func f)=>(srcs c.args.toList).map (OpK.call f,·)
  | .value f=>(srcs (f::c.args.toList)).map (OpK.callv,·)
  |_=>none
 |_=>none
def OpK.isCall:OpK→Bool| .call _=>true| .callv=>true| .pcall _=>true| .pubcall _=>true| .fcall _=>true| .callA _ _=>true|_=>false
def OpK.erase:OpK→OpK
 | .load _ g n=> .load false g n
 | .idxa _ sz=> .idxa false sz
 | .slc _ s sz lo hi=> .slc false s sz lo hi
 | .bsl _ sz n z ps=> .bsl false sz n z ps
 | .pcall f=> .call f
 | .pubcall f=> .call f
 | .fcall f=> .call f
 | .storeA n=> .store n
 | .appA n=> .app n
 | .mkslH _ sz z=> .mksl sz z
 | .boxH _ sz=> .box sz
 |k=>k
section sound
variable {P:Program} {C:zbc} {K:Ctx} {w:World} {M:Mut} {R:Res} {H:Heap} {E:Nat→AV} {a:Act}
theorem zm (hgl:GOk w M R) (he:∀i,VR w M R (E i) (a.tmps.getD i undef)):∀{ops:List Operand} {xs:List Src} {vs:List AV},srcs ops=some xs→vals E xs=some vs→VRs w M R vs (ops.map a.eval)
 | [],xs,vs,h,hv=>by simp[srcs]at h;subst h;simp[vals]at hv;subst hv;exact .nil
 |x::r,xs,vs,h,hv=>by
  simp only[srcs]at h
  split at h
  .rename_i s ss hs hss
   cases h
   simp only[vals]at hv
   split at hv
   .rename_i v vs' h1 h2
    cases hv
    have hx:=VR.src hgl he hs
    have:evS E s=v:=by unfold okO at h1;split at h1<;>simp_all
    rw[this]at hx
    exact .cons hx (zm hgl he hss h2)
   .cases hv
  .cases h
def Done (C:zbc) (K:Ctx) (P:Program) (w:World) (M:Mut) (R:Res) (v:AV) (H':Heap) (s:Sem Next):Prop:=
 ∃nx u w' M' R',s.run P w= .ok nx w'∧(nx= .value u∨(nx= .skip∧u=undef))∧VR w' M' R' v u∧WR C K w' M' R' H'∧Evol R M w R' M' w'
theorem Done.quiet {z:AV} {s:Sem Value} (h:WR C K w M R H) (hq:zaD P w M R z s):Done C K P w M R z H (do pure (.value (←s))):=by
 obtain⟨r,h1,h2⟩:=hq
 exact⟨_,r,w,M,R,by rw[zl h1];rfl,.inl rfl,h2,h,Evol.refl _ _ _⟩
theorem Done.eff {z:AV} {H':Heap} {s:Sem Value} (hq:Eff C K P w M R z H' id s):Done C K P w M R z H' (do pure (.value (←s))):=by
 obtain⟨r,w',M',R',h1,h2,h3,h4⟩:=hq
 exact⟨_,r,w',M',R',by rw[zl h1];rfl,.inl rfl,h2,h3,h4⟩
theorem Done.effU {z:AV} {H':Heap} {s:Sem Unit} (hq:Eff C K P w M R z H' (fun _:Unit=>undef) s):Done C K P w M R z H' (do s;pure .skip):=by
 obtain⟨r,w',M',R',h1,h2,h3,h4⟩:=hq
 exact⟨_,undef,w',M',R',by rw[zl h1];rfl,.inr ⟨rfl,rfl⟩,h2,h3,h4⟩
theorem zaW {x v:AV} (h:okO x=some v):x=v∧v≠.bad:=by unfold okO at h;split at h<;>simp_all
theorem zC {k:OpK} {vs:List AV} {v:AV} {H':Heap} (hk:k.quiet=true) (h:zaF H k vs=some (v,H')):qx H k vs=v∧v≠.bad∧H'=H:=by
 unfold zaF at h
 rw[if_pos hk]at h
 cases ho:okO (qx H k vs) with
 |none=>simp[ho]at h
 |some x=>
  simp only[ho,oMs,oSi,pMi]at h
  obtain⟨rfl,rfl⟩:=h
  obtain⟨h1,h2⟩:=zaW ho
  exact⟨h1,h2,rfl⟩
theorem zau {k:OpK} {vs:List AV} {v:AV} {H':Heap} (hk:k.quiet=false) (h:zaF H k vs=some (v,H')):ex H k vs=some (v,H'):=by
 unfold zaF at h
 rw[if_neg (by simp[hk])]at h
 exact h
theorem za {α β:Type} {x:Option α} {k k':β} {y:α} (h:x.map (k,·)=some (k',y)):x=some y∧k'=k:=by
 cases x<;>simp at h
 exact⟨by rw[h.2],h.1.symm⟩
theorem VRs.one {x:Operand} {vs:List AV} (h:VRs w M R vs ([x].map a.eval)):∃y,vs=[y]∧VR w M R y (a.eval x):=by
 match vs,h with
 | [],h=>simp[VRs]at h
 | [y],h=>exact⟨y,rfl,h.2 0 y _ rfl rfl⟩
 |_::_::_,h=>simp[VRs]at h
theorem VRs.two {x y:Operand} {vs:List AV} (h:VRs w M R vs ([x,y].map a.eval)):∃p q,vs=[p,q]∧VR w M R p (a.eval x)∧VR w M R q (a.eval y):=by
 match vs,h with
 | [],h=>simp[VRs]at h
 | [_],h=>simp[VRs]at h
 | [p,q],h=>exact⟨p,q,rfl,h.2 0 p _ rfl rfl,h.2 1 q _ rfl rfl⟩
 |_::_::_::_,h=>simp[VRs]at h
theorem VRs.three {x y z:Operand} {vs:List AV} (h:VRs w M R vs ([x,y,z].map a.eval)):∃p q r,vs=[p,q,r]∧VR w M R p (a.eval x)∧VR w M R q (a.eval y)∧VR w M R r (a.eval z):=by
 match vs,h with
 | [],h=>simp[VRs]at h
 | [_],h=>simp[VRs]at h
 | [_,_],h=>simp[VRs]at h
 | [p,q,r],h=>exact⟨p,q,r,rfl,h.2 0 p _ rfl rfl,h.2 1 q _ rfl rfl,h.2 2 r _ rfl rfl⟩
 |_::_::_::_::_,h=>simp[VRs]at h
theorem bind_some {α β:Type} {x:Option α} {f:α→Option β} {r:β} (h:x.bind f=some r):∃y,x=some y∧f y=some r:=oBs.1 h
theorem zeQ (ρ:Operand→Value) (parts:Array (Nat×Operand)):((parts.toList.map (·.1)).zip ((parts.toList.map (·.2)).map ρ)).toArray=parts.map fun (i,x)=>(i,ρ x):=by
 apply Array.ext'
 rw[Array.toList_map]
 show (parts.toList.map (·.1)).zip ((parts.toList.map (·.2)).map ρ)=_
 generalize parts.toList=l
 induction l with
 |nil=>rfl
 |cons p l ih=>simp only[List.map_cons,List.zip_cons_cons,ih]
theorem zgk {fs:Array Field}:∀{is:List Nat} {ps:List (Nat×Nat)},places P fs is=some ps→is.map (zh6 P fs)=ps.map some
 | [],ps,h=>by simp[places]at h;subst h;rfl
 |i::r,ps,h=>by
  simp only[places]at h
  split at h
  .rename_i p ps' h1 h2
   cases h
   simp[h1,zgk h2]
  .cases h
theorem zpa {op:BinOp} {t:TypeId} {x y:Operand} {k:OpK} {xs:List Src} {vs:List AV} {v:AV} {H':Heap} (h:WR C K w M R H) (he:∀i,VR w M R (E i) (a.tmps.getD i undef)) (hl:zcf P op t x y=some (k,xs)) (hv:vals E xs=some vs) (hx:zaF H k vs=some (v,H')):
  Done C K P w M R v H' (do pure (.value (←(do eqGuard op t x y (a.eval x) (a.eval y);binOp op t (a.eval x) (a.eval y):Sem Value)))):=by
 unfold zcf at hl
 have heq:∀n,(match op with| .eql=>some false| .neq=>some true|_=>none:Option Bool)=some n→op=if n then .neq else .eql:=by
  intro n hn;cases op<;>simp at hn<;>subst hn<;>rfl
 simp only at hl
 split at hl
 .obtain⟨h1,rfl⟩:=za hl
  obtain⟨p,q,rfl,hp,hq⟩:=(zm h.glob he h1 hv).two
  obtain⟨e1,e2,rfl⟩:=zC rfl hx
  exact .quiet h (zwO hp hq e1 e2)
 .obtain⟨h1,rfl⟩:=za hl
  obtain⟨p,q,rfl,hp,hq⟩:=(zm h.glob he h1 hv).two
  obtain⟨e1,e2,rfl⟩:=zC rfl hx
  exact .quiet h (zwO hp hq e1 e2)
 .rename_i ht
  obtain⟨n,hn,hl⟩:=oBs.1 hl
  obtain⟨h1,rfl⟩:=za hl
  obtain⟨p,q,rfl,hp,hq⟩:=(zm h.glob he h1 hv).two
  obtain⟨e1,e2,rfl⟩:=zC rfl hx
  exact .quiet h (zyt hp hq e1 e2 (heq n hn) ht)
 .rename_i fs ht
  obtain⟨n,hn,hl⟩:=oBs.1 hl
  split at hl
  .rename_i hc
   obtain⟨qs,hqs,hl⟩:=oBs.1 hl
   obtain⟨h1,rfl⟩:=za hl
   obtain⟨p,q,rfl,hp,hq⟩:=(zm h.glob he h1 hv).two
   obtain⟨e1,e2,rfl⟩:=zC rfl hx
   exact .quiet h (zys hp hq e1 e2 (heq n hn) ht hqs hc.1 hc.2)
  .cases hl
 .rename_i len e ht
  obtain⟨n,hn,hl⟩:=oBs.1 hl
  obtain⟨i,hi,hl⟩:=oBs.1 hl
  split at hl
  .rename_i hc
   obtain⟨q,hq,hl⟩:=oBs.1 hl
   obtain⟨h1,rfl⟩:=za hl
   obtain⟨p,q,rfl,hp,hq'⟩:=(zm h.glob he h1 hv).two
   obtain⟨e1,e2,rfl⟩:=zC rfl hx
   exact .quiet h (zne hp hq' e1 e2 (heq n hn) ht hi hc.1 hq hc.2)
  .cases hl
 .rename_i e ht
  obtain⟨n,hn,hl⟩:=oBs.1 hl
  split at hl
  .rename_i hy
   obtain⟨h1,rfl⟩:=za hl
   obtain⟨p,rfl,hp⟩:=(zm h.glob he h1 hv).one
   obtain⟨e1,e2,rfl⟩:=zC rfl hx
   refine .quiet h (zwM hp e1 e2 (heq n hn) (fun _=>⟨e,ht,?_⟩) (fun h=>by cases h))
   unfold zwW at hy
   split at hy
   .rfl
   .cases hy
  .cases hl
 .rename_i e ht
  obtain⟨n,hn,hl⟩:=oBs.1 hl
  split at hl
  .rename_i hy
   obtain⟨h1,rfl⟩:=za hl
   obtain⟨p,rfl,hp⟩:=(zm h.glob he h1 hv).one
   obtain⟨e1,e2,rfl⟩:=zC rfl hx
   refine .quiet h (zwM hp e1 e2 (heq n hn) (fun h=>by cases h) (fun _=>⟨e,ht,?_⟩))
   unfold zwX at hy
   split at hy
   .rfl
   .cases hy
  .cases hl
 .cases hl
theorem zkD {o:Oper} {k:OpK} {xs:List Src} {vs:List AV} {v:AV} {H':Heap} (h:WR C K w M R H) (he:∀i,VR w M R (E i) (a.tmps.getD i undef)) (hl:lite P o=some (k,xs)) (hk:k.isCall=false) (hv:vals E xs=some vs) (hx:zaF H k vs=some (v,H')):
  Done C K P w M R v H' (execOp a.eval o):=by
 obtain⟨dst,op,ty,pos,aft,gd⟩:=o
 cases op with
 |move x=>
  obtain⟨h1,rfl⟩:=za hl
  obtain⟨p,rfl,hp⟩:=(zm h.glob he h1 hv).one
  obtain⟨e1,e2,rfl⟩:=zC rfl hx
  simp only[qx]at e1
  subst e1
  exact⟨_,_,w,M,R,rfl,.inl rfl,hp,h,Evol.refl _ _ _⟩
 |assign x=>
  obtain⟨h1,rfl⟩:=za hl
  obtain⟨p,rfl,hp⟩:=(zm h.glob he h1 hv).one
  obtain⟨e1,e2,rfl⟩:=zC rfl hx
  simp only[qx]at e1
  subst e1
  exact⟨_,_,w,M,R,rfl,.inl rfl,hp,h,Evol.refl _ _ _⟩
 |binOp op t x y yt=>exact zpa h he hl hv hx
 |unOp op t x=>
  cases op<;>simp only[lite]at hl<;>try cases hl
  .obtain⟨h1,rfl⟩:=za hl
   obtain⟨p,rfl,hp⟩:=(zm h.glob he h1 hv).one
   obtain⟨e1,e2,rfl⟩:=zC rfl hx
   exact .quiet h (zyo hp e1 e2)
  .obtain⟨h1,rfl⟩:=za hl
   obtain⟨p,rfl,hp⟩:=(zm h.glob he h1 hv).one
   obtain⟨e1,e2,rfl⟩:=zC rfl hx
   exact .quiet h (zyn hp e1 e2)
 |convert s d x=>
  simp only[lite]at hl
  split at hl
  .rename_i k1 k2 hs hd
   obtain⟨h1,rfl⟩:=za hl
   obtain⟨p,rfl,hp⟩:=(zm h.glob he h1 hv).one
   obtain⟨e1,e2,rfl⟩:=zC rfl hx
   exact .quiet h (zwN hp e1 e2 hs hd)
  .cases hl
 |load t x=>
  simp only[lite]at hl
  split at hl
  .rename_i g n hg hn
   obtain⟨h1,rfl⟩:=za hl
   obtain⟨p,rfl,hp⟩:=(zm h.glob he h1 hv).one
   obtain⟨e1,e2,rfl⟩:=zC rfl hx
   simp only[qx,Bool.false_and,bFt,if_false]at e1
   exact .quiet h (ztd h.heap hp e1 e2 hg hn)
  .cases hl
 |fieldAddr s x f=>
  simp only[lite]at hl
  split at hl
  .rename_i off ft hf
   obtain⟨h1,rfl⟩:=za hl
   obtain⟨p,rfl,hp⟩:=(zm h.glob he h1 hv).one
   obtain⟨e1,e2,rfl⟩:=zC rfl hx
   exact .quiet h (zyq hp e1 e2 hf)
  .cases hl
 |field s x f=>
  simp only[lite]at hl
  split at hl
  .rename_i fs hfs
   split at hl
   .rename_i fd hfd
    split at hl
    .rename_i g n hg hn
     obtain⟨h1,rfl⟩:=za hl
     obtain⟨p,rfl,hp⟩:=(zm h.glob he h1 hv).one
     obtain⟨e1,e2,rfl⟩:=zC rfl hx
     exact .quiet h (zwL hp e1 e2 hfs hfd rfl rfl hg hn)
    .cases hl
   .cases hl
  .cases hl
 |indexAddr t x i=>
  simp only[lite]at hl
  split at hl
  .rename_i e ht
   split at hl
   .rename_i sz hs
    obtain⟨h1,rfl⟩:=za hl
    obtain⟨p,q,rfl,hp,hq⟩:=(zm h.glob he h1 hv).two
    obtain⟨e1,e2,rfl⟩:=zC rfl hx
    simp only[qx,Bool.false_and,bFt,if_false]at e1
    exact .quiet h (zwK h.heap hp hq e1 e2 ht hs)
   .cases hl
  .rename_i n e ht
   split at hl
   .rename_i sz hs
    obtain⟨h1,rfl⟩:=za hl
    obtain⟨p,q,rfl,hp,hq⟩:=(zm h.glob he h1 hv).two
    obtain⟨e1,e2,rfl⟩:=zC rfl hx
    exact .quiet h (zwJ hp hq e1 e2 ht hs)
   .cases hl
  .cases hl
 |index t x i=>
  simp only[lite]at hl
  split at hl
  .rename_i ht
   obtain⟨h1,rfl⟩:=za hl
   obtain⟨p,q,rfl,hp,hq⟩:=(zm h.glob he h1 hv).two
   obtain⟨e1,e2,rfl⟩:=zC rfl hx
   exact .quiet h (zwI hp hq e1 e2 ht)
  .cases hl
 |extract x i=>
  obtain⟨h1,rfl⟩:=za hl
  obtain⟨p,rfl,hp⟩:=(zm h.glob he h1 hv).one
  obtain⟨e1,e2,rfl⟩:=zC rfl hx
  exact .quiet h (zyr hp e1 e2)
 |nilCheck x=>
  obtain⟨h1,rfl⟩:=za hl
  obtain⟨p,rfl,hp⟩:=(zm h.glob he h1 hv).one
  obtain⟨e1,e2,rfl⟩:=zC rfl hx
  obtain⟨r1,r2⟩:=zqg hp e1 e2 a.eval x rfl dst ty pos aft gd
  exact⟨_,_,w,M,R,r1,.inl rfl,r2,h,Evol.refl _ _ _⟩
 |build t parts=>
  simp only[lite]at hl
  split at hl
  .rename_i fs zv ht hz
   split at hl
   .rename_i hall
    split at hl
    .rename_i ps hps
     obtain⟨h1,rfl⟩:=za hl
     have hvs:=zm h.glob he h1 hv
     obtain⟨e1,e2,rfl⟩:=zC rfl hx
     have:=zyv (P:=P) (w:=w) (M:=M) (R:=R) ht hz hall (zgk hps) (by simp) hvs e1 e2
     refine .quiet h ?_
     rw[zeQ]at this
     exact this
    .cases hl
   .cases hl
  .rename_i n e zv ht hz
   obtain⟨sz,hs,hl⟩:=bind_some hl
   obtain⟨h1,rfl⟩:=za hl
   have hvs:=zm h.glob he h1 hv
   obtain⟨e1,e2,rfl⟩:=zC rfl hx
   have:=znf (P:=P) (w:=w) (M:=M) (R:=R) (is:=parts.toList.map (·.1)) ht hz hs (by simp) hvs (by simpa only[qx]using e1) e2
   refine .quiet h ?_
   rw[zeQ]at this
   exact this
  .cases hl
 |makeFunc fn fs cs=>
  cases fn<;>simp only[lite]at hl<;>try cases hl
  obtain⟨h1,rfl⟩:=za hl
  have hvs:=zm h.glob he h1 hv
  obtain⟨e1,e2,rfl⟩:=zC rfl hx
  refine .quiet h (zyu (n:=fs.size) (vs:=vs) ?_ (by simp) e1)
  simpa using hvs
 |slice t x lo hi mx=>
  cases mx with
  |some m=>
   simp only[lite]at hl
   cases hl
  |none=>
   simp only[lite]at hl
   split at hl
   .rename_i e ht
    split at hl
    .rename_i sz hs
     obtain⟨h1,rfl⟩:=za hl
     have hvs:=zm h.glob he h1 hv
     cases vs with
     |nil=>simp[VRs]at hvs
     |cons p bs=>
      obtain⟨pv,vs',e0,hp,hbs⟩:=hvs.inv_cons
      simp only[List.map_cons,List.cons.injEq]at e0
      obtain⟨rfl,rfl⟩:=e0
      obtain⟨e1,e2,rfl⟩:=zC rfl hx
      simp only[qx,Bool.false_and,bFt,if_false]at e1
      refine .quiet h (zwE h.heap (los:=lo.map a.eval) (his:=hi.map a.eval) hp ?_ (by simp) (by simp) e1 e2 (fun h=>by cases h) (fun _=>⟨e,ht,hs⟩))
      cases lo<;>cases hi<;>simpa using hbs
    .cases hl
   .rename_i ht
    obtain⟨h1,rfl⟩:=za hl
    have hvs:=zm h.glob he h1 hv
    cases vs with
    |nil=>simp[VRs]at hvs
    |cons p bs=>
     obtain⟨pv,vs',e0,hp,hbs⟩:=hvs.inv_cons
     simp only[List.map_cons,List.cons.injEq]at e0
     obtain⟨rfl,rfl⟩:=e0
     obtain⟨e1,e2,rfl⟩:=zC rfl hx
     simp only[qx,Bool.false_and,bFt,if_false]at e1
     refine .quiet h (zwE h.heap (los:=lo.map a.eval) (his:=hi.map a.eval) hp ?_ (by simp) (by simp) e1 e2 (fun _=>ht) (fun h=>by cases h))
     cases lo<;>cases hi<;>simpa using hbs
   .cases hl
 |alloc t=>
  simp only[lite]at hl
  split at hl
  .rename_i sz zv hs hz
   cases hl
   simp only[vals,evS]at hv
   split at hv
   .rename_i v1 vs1 h1 h2
    cases h2
    cases hv
    obtain⟨e0,_⟩:=zaW h1
    subst e0
    obtain⟨r,w',M',R',r1,r2,r3,r4⟩:Eff C K P w M R v H' id (Instr.box t zv):=by
     exact zxu h (VR.ofV w M R zv) (t:=t) (zau rfl hx)
    refine⟨.value r,r,w',M',R',?_,.inl rfl,r2,r3,r4⟩
    show (do pure (Next.value (←Instr.alloc t true (.tuple #[]))):Sem Next).run P w=_
    have hrun:(Instr.alloc t true (.tuple #[])).run P w= .ok r w':=by
     unfold Instr.alloc
     rw[zl (zaI hz w)]
     exact r1
    rw[zl hrun]
    rfl
   .cases hv
  .cases hl
 |box t x=>
  simp only[lite]at hl
  split at hl
  .rename_i sz hs
   obtain⟨h1,rfl⟩:=za hl
   obtain⟨p,rfl,hp⟩:=(zm h.glob he h1 hv).one
   exact .eff (zxu h hp (zau rfl hx))
  .cases hl
 |buildSlice t len parts=>
  simp only[lite]at hl
  split at hl
  .rename_i e ht
   split at hl
   .rename_i sz zv hs hz
    obtain⟨h1,rfl⟩:=za hl
    have hvs:=zm h.glob he h1 hv
    have:=zxt h hvs (zau rfl hx) ht hs hz (by simp)
    refine .eff ?_
    rw[zeQ]at this
    exact this
   .cases hl
  .cases hl
 |store t p x=>
  simp only[lite]at hl
  split at hl
  .rename_i n hn
   obtain⟨h1,rfl⟩:=za hl
   obtain⟨p',q,rfl,hp,hq⟩:=(zm h.glob he h1 hv).two
   exact .effU (zvC h hp hq (zau rfl hx) hn)
  .cases hl
 |call c=>
  obtain⟨callee,args,ts⟩:=c
  cases callee with
  |value f=>
   simp only[lite]at hl
   cases f<;>simp only at hl<;>(obtain⟨_,rfl⟩:=za hl;cases hk)
  |invoke r m=>simp only[lite]at hl;cases hl
  |builtin b=>
   cases b<;>simp only[lite]at hl<;>try cases hl
   .split at hl
    .rename_i t t' x y hts hargs
     split at hl
     .rename_i htt
      subst htt
      split at hl
      .rename_i e ht
       split at hl
       .rename_i i hi
        split at hl
        .rename_i zv hz
         split at hl
         .rename_i hc
          have e1:args.map a.eval=#[a.eval x,a.eval y]:=by apply Array.ext';simp[hargs]
          have e2:ts=#[t,t]:=by apply Array.ext';simp[hts]
          obtain⟨h1,rfl⟩:=za hl
          obtain⟨p,q,rfl,hp,hq⟩:=(zm h.glob he h1 hv).two
          have:=zAZ h (ty:=ty) ⟨ht,hi,rfl,hz,hc.1,hc.2⟩ hp hq (zau rfl hx)
          rw[←e1,←e2]at this
          exact .eff this
         .cases hl
        .cases hl
       .cases hl
      .cases hl
     .cases hl
    .cases hl
   .split at hl
    .rename_i t x hts hargs
     have e1:args.map a.eval=#[a.eval x]:=by apply Array.ext';simp[hargs]
     have e2:ts=#[t]:=by apply Array.ext';simp[hts]
     split at hl
     .rename_i e ht
      obtain⟨zv,hz,hl⟩:=bind_some hl
      obtain⟨sz,hs,hl⟩:=bind_some hl
      obtain⟨h1,rfl⟩:=za hl
      obtain⟨p,rfl,hp⟩:=(zm h.glob he h1 hv).one
      have:=zAY (ty:=ty) h hp (zau rfl hx) ht hz
      rw[←e1,←e2]at this
      exact .eff this
     .cases hl
    .cases hl
   .split at hl
    .rename_i t t' x y hts hargs
     have e1:args.map a.eval=#[a.eval x,a.eval y]:=by apply Array.ext';simp[hargs]
     have e2:ts=#[t,t']:=by apply Array.ext';simp[hts]
     split at hl
     .rename_i e ht
      split at hl
      .rename_i hs
       obtain⟨h1,rfl⟩:=za hl
       obtain⟨p,q,rfl,hp,hq⟩:=(zm h.glob he h1 hv).two
       have:=zAX (t':=t') (ty:=ty) h hp hq (zau rfl hx) ht hs
       rw[←e1,←e2]at this
       exact .eff this
      .cases hl
     .cases hl
    .cases hl
   .split at hl
    .rename_i t x hts hargs
     have e1:args.map a.eval=#[a.eval x]:=by apply Array.ext';simp[hargs]
     split at hl
     .rename_i ht
      obtain⟨h1,rfl⟩:=za hl
      obtain⟨p,rfl,hp⟩:=(zm h.glob he h1 hv).one
      obtain⟨f1,f2,rfl⟩:=zC rfl hx
      have:=zwH (ty:=ty) hp f1 f2 hts (fun _=>ht) (fun h=>by cases h)
      rw[←e1]at this
      exact .quiet h this
     .rename_i e ht
      obtain⟨h1,rfl⟩:=za hl
      obtain⟨p,rfl,hp⟩:=(zm h.glob he h1 hv).one
      obtain⟨f1,f2,rfl⟩:=zC rfl hx
      have:=zwH (ty:=ty) hp f1 f2 hts (fun h=>by cases h) (fun _=>⟨e,ht⟩)
      rw[←e1]at this
      exact .quiet h this
     .cases hl
    .cases hl
   .split at hl
    .rename_i x y hargs
     have e1:args.map a.eval=#[a.eval x,a.eval y]:=by apply Array.ext';simp[hargs]
     obtain⟨h1,rfl⟩:=za hl
     obtain⟨p,q,rfl,hp,hq⟩:=(zm h.glob he h1 hv).two
     obtain⟨f1,f2,rfl⟩:=zC rfl hx
     have:=q_mx (P:=P) (ts:=ts) (ty:=ty) hp hq f1 f2
     rw[←e1]at this
     exact .quiet h this
    .rename_i x y x3 hargs
     have e1:args.map a.eval=#[a.eval x,a.eval y,a.eval x3]:=by apply Array.ext';simp[hargs]
     obtain⟨h1,rfl⟩:=za hl
     obtain⟨p,q,q3,rfl,hp,hq,hq3⟩:=(zm h.glob he h1 hv).three
     obtain⟨f1,f2,rfl⟩:=zC rfl hx
     have:=zyp (P:=P) (ts:=ts) (ty:=ty) hp hq hq3 f1 f2
     rw[←e1]at this
     exact .quiet h this
    .cases hl
   .split at hl
    .rename_i x y hargs
     have e1:args.map a.eval=#[a.eval x,a.eval y]:=by apply Array.ext';simp[hargs]
     obtain⟨h1,rfl⟩:=za hl
     obtain⟨p,q,rfl,hp,hq⟩:=(zm h.glob he h1 hv).two
     obtain⟨f1,f2,rfl⟩:=zC rfl hx
     have:=q_mn (P:=P) (ts:=ts) (ty:=ty) hp hq f1 f2
     rw[←e1]at this
     exact .quiet h this
    .cases hl
 |makeSlice t x y=>
  simp only[lite]at hl
  split at hl
  .rename_i e ht
   obtain⟨i,hi,hl⟩:=bind_some hl
   obtain⟨zv,hz,hl⟩:=bind_some hl
   split at hl
   .rename_i hb
    obtain⟨h1,rfl⟩:=za hl
    obtain⟨p,q,rfl,hp,hq⟩:=(zm h.glob he h1 hv).two
    exact .eff (zxs h hp hq (zau rfl hx) ht hi hz rfl hb)
   .cases hl
  .cases hl
 |range t x=>
  simp only[lite]at hl
  split at hl
  .rename_i ht
   obtain⟨h1,rfl⟩:=za hl
   obtain⟨p,rfl,hp⟩:=(zm h.glob he h1 hv).one
   exact .eff (zxr h hp (zau rfl hx) ht)
  .cases hl
 |entry x=>cases hl
 |next x b=>
  cases b with
  |false=>simp only[lite]at hl;cases hl
  |true=>
   simp only[lite]at hl
   obtain⟨h1,rfl⟩:=za hl
   obtain⟨p,rfl,hp⟩:=(zm h.glob he h1 hv).one
   exact .eff (zAW h hp (zau rfl hx))
 |makeMap t r=>
  cases r with
  |some r=>simp only[lite]at hl;cases hl
  |none=>
   simp only[lite]at hl
   obtain⟨h1,rfl⟩:=za hl
   have:=(zm h.glob he h1 hv)
   have hvs:vs=[]:=List.length_eq_zero_iff.1 (by have:=this.1;simpa using this.symm)
   subst hvs
   exact .eff (zvE h (zau rfl hx))
 |insert t m k0 x=>
  simp only[lite]at hl
  split at hl
  .rename_i kt et ht
   obtain⟨d,hd,hl⟩:=bind_some hl
   obtain⟨q,hq,hl⟩:=bind_some hl
   obtain⟨h1,rfl⟩:=za hl
   obtain⟨p1,p2,p3,rfl,q1,q2,q3⟩:=(zm h.glob he h1 hv).three
   exact .effU (ztt h q1 q2 q3 (zau rfl hx) ht hd hq)
  .cases hl
 |mapUpdate t m k0 x=>
  simp only[lite]at hl
  split at hl
  .rename_i kt et ht
   obtain⟨d,hd,hl⟩:=bind_some hl
   obtain⟨q,hq,hl⟩:=bind_some hl
   obtain⟨h1,rfl⟩:=za hl
   obtain⟨p1,p2,p3,rfl,q1,q2,q3⟩:=(zm h.glob he h1 hv).three
   exact .effU (ztt h q1 q2 q3 (zau rfl hx) ht hd hq)
  .cases hl
 |lookup t m k0 ok=>
  simp only[lite]at hl
  split at hl
  .rename_i kt et ht
   obtain⟨d,hd,hl⟩:=bind_some hl
   obtain⟨q,hq,hl⟩:=bind_some hl
   obtain⟨zv,hz,hl⟩:=bind_some hl
   obtain⟨h1,rfl⟩:=za hl
   obtain⟨p1,p2,rfl,q1,q2⟩:=(zm h.glob he h1 hv).two
   obtain⟨e1,e2,rfl⟩:=zC rfl hx
   exact .quiet h (zwG h.heap q1 q2 e1 e2 ht hd hq hz)
  .cases hl
 |_=>simp only[lite]at hl;cases hl
def OpK.isBsl:OpK→Bool| .bsl _ _ _ _ _=>true|_=>false
theorem zgz {op:BinOp} {t:TypeId} {x y:Operand} {kk:OpK} {xs:List Src} (hl:zcf P op t x y=some (kk,xs)):kk.isBsl=false∧kk.isCall=false:=by
 unfold zcf at hl
 simp only at hl
 split at hl
 .rw[(za hl).2];exact⟨rfl,rfl⟩
 .rw[(za hl).2];exact⟨rfl,rfl⟩
 .obtain⟨n,hn,hl⟩:=oBs.1 hl
  rw[(za hl).2];exact⟨rfl,rfl⟩
 .obtain⟨n,hn,hl⟩:=oBs.1 hl
  split at hl
  .obtain⟨qs,hqs,hl⟩:=oBs.1 hl
   rw[(za hl).2];exact⟨rfl,rfl⟩
  .cases hl
 .obtain⟨n,hn,hl⟩:=oBs.1 hl
  obtain⟨i,hi,hl⟩:=oBs.1 hl
  split at hl
  .obtain⟨q,hq,hl⟩:=oBs.1 hl
   rw[(za hl).2];exact⟨rfl,rfl⟩
  .cases hl
 .obtain⟨n,hn,hl⟩:=oBs.1 hl
  split at hl
  .rw[(za hl).2];exact⟨rfl,rfl⟩
  .cases hl
 .obtain⟨n,hn,hl⟩:=oBs.1 hl
  split at hl
  .rw[(za hl).2];exact⟨rfl,rfl⟩
  .cases hl
 .cases hl
theorem zqU {o:Oper} {kk:OpK} {xs:List Src} (hlt:lite P o=some (kk,xs)) (hb:kk.isBsl=true):
  ∃t len parts e sz zv,o.op= .buildSlice t len parts∧P.underlying t=some (.slice e)∧szT P e=some sz∧zdo P e=some zv∧kk= .bsl false sz len (ofV zv) (parts.toList.map (·.1))∧srcs (parts.toList.map (·.2))=some xs:=by
 obtain⟨dst,op,ty,pos,aft,gd⟩:=o
 have no:kk.isBsl=false→False:=fun h=>by rw[h]at hb;cases hb
 cases op with
 |buildSlice t len parts=>
  simp only[lite]at hlt
  split at hlt
  .rename_i e ht
   split at hlt
   .rename_i sz zv hs hz
    exact⟨t,len,parts,e,sz,zv,rfl,ht,hs,hz,(za hlt).2,(za hlt).1⟩
   .cases hlt
  .cases hlt
 |call c=>
  obtain⟨callee,args,ts⟩:=c
  exfalso
  apply no
  cases callee with
  |value fo=>
   cases fo with
   |global g=>simp only[lite]at hlt;rw[(za hlt).2];rfl
   |func f=>rw[(za hlt).2];rfl
   |tmp i=>rw[(za hlt).2];rfl
   |const v=>rw[(za hlt).2];rfl
  |invoke r m=>simp only[lite]at hlt;cases hlt
  |builtin b=>
   cases b<;>simp only[lite]at hlt
   case max=>
    repeat' split at hlt
    all_goals first
     |(rw[(za hlt).2];rfl)
     |cases hlt
   case min=>
    repeat' split at hlt
    all_goals first
     |(rw[(za hlt).2];rfl)
     |cases hlt
   case cap=>
    repeat' split at hlt
    all_goals first
     |(rw[(za hlt).2];rfl)
     |cases hlt
   case clear=>
    repeat' split at hlt
    all_goals first
     |(obtain⟨_,_,hlt⟩:=bind_some hlt;obtain⟨_,_,hlt⟩:=bind_some hlt;rw[(za hlt).2];rfl)
     |cases hlt
   case copy=>
    repeat' split at hlt
    all_goals first
     |(rw[(za hlt).2];rfl)
     |cases hlt
   case len=>
    repeat' split at hlt
    all_goals first
     |(rw[(za hlt).2];rfl)
     |cases hlt
   case append=>
    repeat' split at hlt
    all_goals first
     |(rw[(za hlt).2];rfl)
     |cases hlt
   all_goals cases hlt
 |binOp op t x y yt=>exact (no (zgz hlt).1).elim
 |alloc t=>
  exfalso
  apply no
  simp only[lite]at hlt
  split at hlt
  .cases hlt;rfl
  .cases hlt
 |unOp op t x=>
  exfalso
  apply no
  cases op<;>simp only[lite]at hlt<;>first
   |(rw[(za hlt).2];rfl)
   |cases hlt
 |makeFunc fn fs cs=>
  exfalso
  apply no
  cases fn<;>simp only[lite]at hlt<;>first
   |(rw[(za hlt).2];rfl)
   |cases hlt
 |slice t x lo hi mx=>
  exfalso
  apply no
  cases mx<;>simp only[lite]at hlt
  .repeat' split at hlt
   all_goals first
    |(rw[(za hlt).2];rfl)
    |cases hlt
  .cases hlt
 |makeSlice t x y=>
  exfalso
  apply no
  simp only[lite]at hlt
  split at hlt
  .obtain⟨_,_,hlt⟩:=bind_some hlt
   obtain⟨_,_,hlt⟩:=bind_some hlt
   split at hlt
   .rw[(za hlt).2];rfl
   .cases hlt
  .cases hlt
 |makeMap t r=>
  exfalso
  apply no
  cases r with
  |some r=>simp only[lite]at hlt;cases hlt
  |none=>simp only[lite]at hlt;rw[(za hlt).2];rfl
 |insert t m k x=>
  exfalso
  apply no
  simp only[lite]at hlt
  split at hlt
  .obtain⟨_,_,hlt⟩:=bind_some hlt
   obtain⟨_,_,hlt⟩:=bind_some hlt
   rw[(za hlt).2];rfl
  .cases hlt
 |mapUpdate t m k x=>
  exfalso
  apply no
  simp only[lite]at hlt
  split at hlt
  .obtain⟨_,_,hlt⟩:=bind_some hlt
   obtain⟨_,_,hlt⟩:=bind_some hlt
   rw[(za hlt).2];rfl
  .cases hlt
 |lookup t m k ok=>
  exfalso
  apply no
  simp only[lite]at hlt
  split at hlt
  .obtain⟨_,_,hlt⟩:=bind_some hlt
   obtain⟨_,_,hlt⟩:=bind_some hlt
   obtain⟨_,_,hlt⟩:=bind_some hlt
   rw[(za hlt).2];rfl
  .cases hlt
 |build t parts=>
  exfalso
  apply no
  simp only[lite]at hlt
  repeat' split at hlt
  all_goals first
   |(rw[(za hlt).2];rfl)
   |(obtain⟨_,_,hlt⟩:=bind_some hlt;rw[(za hlt).2];rfl)
   |cases hlt
 |next x b=>
  exfalso
  apply no
  cases b<;>simp only[lite]at hlt
  .cases hlt
  .rw[(za hlt).2];rfl
 |_=>
  exfalso
  apply no
  simp only[lite]at hlt
  repeat' split at hlt
  all_goals first
   |(rw[(za hlt).2];rfl)
   |cases hlt
def OpK.isMk:OpK→Bool| .mksl _ _=>true|_=>false
theorem zpb {op:BinOp} {t:TypeId} {x y:Operand} {kk:OpK} {xs:List Src} (hl:zcf P op t x y=some (kk,xs)):kk.isMk=false:=by
 unfold zcf at hl
 simp only at hl
 split at hl
 .rw[(za hl).2];rfl
 .rw[(za hl).2];rfl
 .obtain⟨n,hn,hl⟩:=oBs.1 hl
  rw[(za hl).2];rfl
 .obtain⟨n,hn,hl⟩:=oBs.1 hl
  split at hl
  .obtain⟨qs,hqs,hl⟩:=oBs.1 hl
   rw[(za hl).2];rfl
  .cases hl
 .obtain⟨n,hn,hl⟩:=oBs.1 hl
  obtain⟨i,hi,hl⟩:=oBs.1 hl
  split at hl
  .obtain⟨q,hq,hl⟩:=oBs.1 hl
   rw[(za hl).2];rfl
  .cases hl
 .obtain⟨n,hn,hl⟩:=oBs.1 hl
  split at hl
  .rw[(za hl).2];rfl
  .cases hl
 .obtain⟨n,hn,hl⟩:=oBs.1 hl
  split at hl
  .rw[(za hl).2];rfl
  .cases hl
 .cases hl
theorem zuj {o:Oper} {kk:OpK} {xs:List Src} (hlt:lite P o=some (kk,xs)) (hb:kk.isMk=true):
  ∃t x y e i zv,o.op= .makeSlice t x y∧P.underlying t=some (.slice e)∧P.info? e=some i∧i.zero=some zv∧i.bytes≤65536∧kk= .mksl i.size (ofV zv)∧srcs [x,y]=some xs:=by
 obtain⟨dst,op,ty,pos,aft,gd⟩:=o
 have no:kk.isMk=false→False:=fun h=>by rw[h]at hb;cases hb
 cases op with
 |buildSlice t len parts=>
  exfalso
  apply no
  simp only[lite]at hlt
  split at hlt
  .split at hlt
   .rw[(za hlt).2];rfl
   .cases hlt
  .cases hlt
 |call c=>
  obtain⟨callee,args,ts⟩:=c
  exfalso
  apply no
  cases callee with
  |value fo=>
   cases fo with
   |global g=>simp only[lite]at hlt;rw[(za hlt).2];rfl
   |func f=>rw[(za hlt).2];rfl
   |tmp i=>rw[(za hlt).2];rfl
   |const v=>rw[(za hlt).2];rfl
  |invoke r m=>simp only[lite]at hlt;cases hlt
  |builtin b=>
   cases b<;>simp only[lite]at hlt
   case max=>
    repeat' split at hlt
    all_goals first
     |(rw[(za hlt).2];rfl)
     |cases hlt
   case min=>
    repeat' split at hlt
    all_goals first
     |(rw[(za hlt).2];rfl)
     |cases hlt
   case cap=>
    repeat' split at hlt
    all_goals first
     |(rw[(za hlt).2];rfl)
     |cases hlt
   case clear=>
    repeat' split at hlt
    all_goals first
     |(obtain⟨_,_,hlt⟩:=bind_some hlt;obtain⟨_,_,hlt⟩:=bind_some hlt;rw[(za hlt).2];rfl)
     |cases hlt
   case copy=>
    repeat' split at hlt
    all_goals first
     |(rw[(za hlt).2];rfl)
     |cases hlt
   case len=>
    repeat' split at hlt
    all_goals first
     |(rw[(za hlt).2];rfl)
     |cases hlt
   case append=>
    repeat' split at hlt
    all_goals first
     |(rw[(za hlt).2];rfl)
     |cases hlt
   all_goals cases hlt
 |binOp op t x y yt=>exact (no (zpb hlt)).elim
 |alloc t=>
  exfalso
  apply no
  simp only[lite]at hlt
  split at hlt
  .cases hlt;rfl
  .cases hlt
 |unOp op t x=>
  exfalso
  apply no
  cases op<;>simp only[lite]at hlt<;>first
   |(rw[(za hlt).2];rfl)
   |cases hlt
 |makeFunc fn fs cs=>
  exfalso
  apply no
  cases fn<;>simp only[lite]at hlt<;>first
   |(rw[(za hlt).2];rfl)
   |cases hlt
 |slice t x lo hi mx=>
  exfalso
  apply no
  cases mx<;>simp only[lite]at hlt
  .repeat' split at hlt
   all_goals first
    |(rw[(za hlt).2];rfl)
    |cases hlt
  .cases hlt
 |makeSlice t x y=>
  simp only[lite]at hlt
  split at hlt
  .rename_i e ht
   obtain⟨i,hi,hlt⟩:=bind_some hlt
   obtain⟨zv,hz,hlt⟩:=bind_some hlt
   split at hlt
   .rename_i hb'
    exact⟨t,x,y,e,i,zv,rfl,ht,hi,hz,hb',(za hlt).2,(za hlt).1⟩
   .cases hlt
  .cases hlt
 |makeMap t r=>
  exfalso
  apply no
  cases r with
  |some r=>simp only[lite]at hlt;cases hlt
  |none=>simp only[lite]at hlt;rw[(za hlt).2];rfl
 |insert t m k x=>
  exfalso
  apply no
  simp only[lite]at hlt
  split at hlt
  .obtain⟨_,_,hlt⟩:=bind_some hlt
   obtain⟨_,_,hlt⟩:=bind_some hlt
   rw[(za hlt).2];rfl
  .cases hlt
 |mapUpdate t m k x=>
  exfalso
  apply no
  simp only[lite]at hlt
  split at hlt
  .obtain⟨_,_,hlt⟩:=bind_some hlt
   obtain⟨_,_,hlt⟩:=bind_some hlt
   rw[(za hlt).2];rfl
  .cases hlt
 |lookup t m k ok=>
  exfalso
  apply no
  simp only[lite]at hlt
  split at hlt
  .obtain⟨_,_,hlt⟩:=bind_some hlt
   obtain⟨_,_,hlt⟩:=bind_some hlt
   obtain⟨_,_,hlt⟩:=bind_some hlt
   rw[(za hlt).2];rfl
  .cases hlt
 |build t parts=>
  exfalso
  apply no
  simp only[lite]at hlt
  repeat' split at hlt
  all_goals first
   |(rw[(za hlt).2];rfl)
   |(obtain⟨_,_,hlt⟩:=bind_some hlt;rw[(za hlt).2];rfl)
   |cases hlt
 |next x b=>
  exfalso
  apply no
  cases b<;>simp only[lite]at hlt
  .cases hlt
  .rw[(za hlt).2];rfl
 |_=>
  exfalso
  apply no
  simp only[lite]at hlt
  repeat' split at hlt
  all_goals first
   |(rw[(za hlt).2];rfl)
   |cases hlt
def OpK.isBx:OpK→Bool| .box _=>true|_=>false
theorem zpc {op:BinOp} {t:TypeId} {x y:Operand} {kk:OpK} {xs:List Src} (hl:zcf P op t x y=some (kk,xs)):kk.isBx=false:=by
 unfold zcf at hl
 simp only at hl
 split at hl
 .rw[(za hl).2];rfl
 .rw[(za hl).2];rfl
 .obtain⟨n,hn,hl⟩:=oBs.1 hl
  rw[(za hl).2];rfl
 .obtain⟨n,hn,hl⟩:=oBs.1 hl
  split at hl
  .obtain⟨qs,hqs,hl⟩:=oBs.1 hl
   rw[(za hl).2];rfl
  .cases hl
 .obtain⟨n,hn,hl⟩:=oBs.1 hl
  obtain⟨i,hi,hl⟩:=oBs.1 hl
  split at hl
  .obtain⟨q,hq,hl⟩:=oBs.1 hl
   rw[(za hl).2];rfl
  .cases hl
 .obtain⟨n,hn,hl⟩:=oBs.1 hl
  split at hl
  .rw[(za hl).2];rfl
  .cases hl
 .obtain⟨n,hn,hl⟩:=oBs.1 hl
  split at hl
  .rw[(za hl).2];rfl
  .cases hl
 .cases hl
theorem zuk {o:Oper} {kk:OpK} {xs:List Src} (hlt:lite P o=some (kk,xs)) (hb:kk.isBx=true):
  (∃t sz zv,o.op= .alloc t∧zdo P t=some zv∧kk= .box sz∧xs=[.c (ofV zv)])∨∃t x sz,o.op= .box t x∧kk= .box sz∧srcs [x]=some xs:=by
 obtain⟨dst,op,ty,pos,aft,gd⟩:=o
 have no:kk.isBx=false→False:=fun h=>by rw[h]at hb;cases hb
 cases op with
 |buildSlice t len parts=>
  exfalso
  apply no
  simp only[lite]at hlt
  split at hlt
  .split at hlt
   .rw[(za hlt).2];rfl
   .cases hlt
  .cases hlt
 |call c=>
  obtain⟨callee,args,ts⟩:=c
  exfalso
  apply no
  cases callee with
  |value fo=>
   cases fo with
   |global g=>simp only[lite]at hlt;rw[(za hlt).2];rfl
   |func f=>rw[(za hlt).2];rfl
   |tmp i=>rw[(za hlt).2];rfl
   |const v=>rw[(za hlt).2];rfl
  |invoke r m=>simp only[lite]at hlt;cases hlt
  |builtin b=>
   cases b<;>simp only[lite]at hlt
   case max=>
    repeat' split at hlt
    all_goals first
     |(rw[(za hlt).2];rfl)
     |cases hlt
   case min=>
    repeat' split at hlt
    all_goals first
     |(rw[(za hlt).2];rfl)
     |cases hlt
   case cap=>
    repeat' split at hlt
    all_goals first
     |(rw[(za hlt).2];rfl)
     |cases hlt
   case clear=>
    repeat' split at hlt
    all_goals first
     |(obtain⟨_,_,hlt⟩:=bind_some hlt;obtain⟨_,_,hlt⟩:=bind_some hlt;rw[(za hlt).2];rfl)
     |cases hlt
   case copy=>
    repeat' split at hlt
    all_goals first
     |(rw[(za hlt).2];rfl)
     |cases hlt
   case len=>
    repeat' split at hlt
    all_goals first
     |(rw[(za hlt).2];rfl)
     |cases hlt
   case append=>
    repeat' split at hlt
    all_goals first
     |(rw[(za hlt).2];rfl)
     |cases hlt
   all_goals cases hlt
 |binOp op t x y yt=>exact (no (zpc hlt)).elim
 |alloc t=>
  simp only[lite]at hlt
  split at hlt
  .rename_i sz zv hs hz
   simp only[oSi,pMi]at hlt
   obtain⟨h1,h2⟩:=hlt
   exact .inl ⟨t,sz,zv,rfl,hz,h1.symm,h2.symm⟩
  .cases hlt
 |unOp op t x=>
  exfalso
  apply no
  cases op<;>simp only[lite]at hlt<;>first
   |(rw[(za hlt).2];rfl)
   |cases hlt
 |makeFunc fn fs cs=>
  exfalso
  apply no
  cases fn<;>simp only[lite]at hlt<;>first
   |(rw[(za hlt).2];rfl)
   |cases hlt
 |slice t x lo hi mx=>
  exfalso
  apply no
  cases mx<;>simp only[lite]at hlt
  .repeat' split at hlt
   all_goals first
    |(rw[(za hlt).2];rfl)
    |cases hlt
  .cases hlt
 |makeSlice t x y=>
  exfalso
  apply no
  simp only[lite]at hlt
  split at hlt
  .obtain⟨_,_,hlt⟩:=bind_some hlt
   obtain⟨_,_,hlt⟩:=bind_some hlt
   split at hlt
   .rw[(za hlt).2];rfl
   .cases hlt
  .cases hlt
 |box t x=>
  simp only[lite]at hlt
  split at hlt
  .rename_i sz hs
   have h2:=(za hlt).2
   exact .inr ⟨t,x,sz,rfl,h2,(za hlt).1⟩
  .cases hlt
 |makeMap t r=>
  exfalso
  apply no
  cases r with
  |some r=>simp only[lite]at hlt;cases hlt
  |none=>simp only[lite]at hlt;rw[(za hlt).2];rfl
 |insert t m k x=>
  exfalso
  apply no
  simp only[lite]at hlt
  split at hlt
  .obtain⟨_,_,hlt⟩:=bind_some hlt
   obtain⟨_,_,hlt⟩:=bind_some hlt
   rw[(za hlt).2];rfl
  .cases hlt
 |mapUpdate t m k x=>
  exfalso
  apply no
  simp only[lite]at hlt
  split at hlt
  .obtain⟨_,_,hlt⟩:=bind_some hlt
   obtain⟨_,_,hlt⟩:=bind_some hlt
   rw[(za hlt).2];rfl
  .cases hlt
 |lookup t m k ok=>
  exfalso
  apply no
  simp only[lite]at hlt
  split at hlt
  .obtain⟨_,_,hlt⟩:=bind_some hlt
   obtain⟨_,_,hlt⟩:=bind_some hlt
   obtain⟨_,_,hlt⟩:=bind_some hlt
   rw[(za hlt).2];rfl
  .cases hlt
 |build t parts=>
  exfalso
  apply no
  simp only[lite]at hlt
  repeat' split at hlt
  all_goals first
   |(rw[(za hlt).2];rfl)
   |(obtain⟨_,_,hlt⟩:=bind_some hlt;rw[(za hlt).2];rfl)
   |cases hlt
 |next x b=>
  exfalso
  apply no
  cases b<;>simp only[lite]at hlt
  .cases hlt
  .rw[(za hlt).2];rfl
 |_=>
  exfalso
  apply no
  simp only[lite]at hlt
  repeat' split at hlt
  all_goals first
   |(rw[(za hlt).2];rfl)
   |cases hlt
theorem zdd {k:OpK} {vs:List AV} {v:AV} (hq:k.quiet=true) (h1:qx H k vs=v) (h2:v≠.bad):zaF H k vs=some (v,H):=by
 unfold zaF
 rw[if_pos hq,h1]
 unfold okO
 split
 .exact absurd rfl h2
 .rfl
theorem zdw {E:Nat→AV}:∀{xs:List Src} {vs:List AV} (n:Nat),vals E xs=some vs→vals E (xs.take n)=some (vs.take n)
 | [],vs,n,h=>by simp[vals]at h;subst h;simp[vals]
 |x::xs,vs,n,h=>by
  simp only[vals]at h
  split at h
  .rename_i v vs' h1 h2
   cases h
   cases n with
   |zero=>rfl
   |succ n=>simp only[List.take_succ_cons,vals,h1,zdw n h2]
  .cases h
theorem zme {k:OpK} {vs:List AV} {r:AV×Heap} (hsa:zbE k=none) (hk:k.isCall=false) (hmk:∀t sz z,k≠.mkslH t sz z) (hbh:∀t sz,k≠.boxH t sz) (hb:∀sz len z ps,k≠.bsl true sz len z ps) (hx:zaF H k vs=some r):zaF H k.erase vs=some r:=by
 have key:∀(imm:Bool) (x:AV) (y z:AV),(if imm&& !x.imm then AV.bad else y)=z→z≠.bad→y=z:=by
  intro imm x y z h hz
  split at h
  .exact absurd h.symm hz
  .exact h
 cases k with
 |load imm g n=>
  obtain⟨v,H'⟩:=r
  obtain⟨e1,e2,rfl⟩:=zC rfl hx
  have:qx H' (.load false g n) vs=v:=by
   match vs,e1 with
   | [x],e1=>simp only[qx,Bool.false_and,bFt,if_false]at e1⊢;exact key _ _ _ _ e1 e2
   | [],e1=>exact e1
   |_::_::_,e1=>exact e1
  show zaF H' (.load false g n) vs=some (v,H')
  exact zdd rfl this e2
 |idxa imm sz=>
  obtain⟨v,H'⟩:=r
  obtain⟨e1,e2,rfl⟩:=zC rfl hx
  have:qx H' (.idxa false sz) vs=v:=by
   match vs,e1 with
   | [x,y],e1=>simp only[qx,Bool.false_and,bFt,if_false]at e1⊢;exact key _ _ _ _ e1 e2
   | [],e1=>exact e1
   | [_],e1=>exact e1
   |_::_::_::_,e1=>exact e1
  show zaF H' (.idxa false sz) vs=some (v,H')
  exact zdd rfl this e2
 |slc imm str sz lo hi=>
  obtain⟨v,H'⟩:=r
  obtain⟨e1,e2,rfl⟩:=zC rfl hx
  have:qx H' (.slc false str sz lo hi) vs=v:=by
   match vs,e1 with
   | [],e1=>exact e1
   |x::bs,e1=>simp only[qx,Bool.false_and,bFt,if_false]at e1⊢;exact key _ _ _ _ e1 e2
  show zaF H' (.slc false str sz lo hi) vs=some (v,H')
  exact zdd rfl this e2
 |bsl imm sz len z ps=>
  cases imm with
  |true=>exact absurd rfl (hb _ _ _ _)
  |false=>exact hx
 |storeA n=>cases hsa
 |appA n=>cases hsa
 |pcall f=>cases hk
 |pubcall f=>cases hk
 |fcall f=>cases hk
 |mkslH t sz z=>exact absurd rfl (hmk _ _ _)
 |boxH t sz=>exact absurd rfl (hbh _ _)
 |_=>exact hx
theorem znn {o:Oper} {k:OpK} {xs:List Src} {vs:List AV} {v:AV} {H':Heap} (h:WR C K w M R H) (he:∀i,VR w M R (E i) (a.tmps.getD i undef)) (hsa:zbE k=none) (hl:lite P o=some (k.erase,xs)) (hk:k.isCall=false) (hv:vals E xs=some vs) (hx:zaF H k vs=some (v,H')):
  Done C K P w M R v H' (execOp a.eval o):=by
 by_cases hb:∃sz len z ps,k= .bsl true sz len z ps
 .obtain⟨sz,len,z,ps,rfl⟩:=hb
  obtain⟨t,len',parts,e,sz',zv,q1,q2,q3,q4,q5,q6⟩:=zqU hl rfl
  simp only[OpK.erase,OpK.bsl.injEq]at q5
  obtain⟨_,rfl,rfl,rfl,rfl⟩:=q5
  have hvs:=zm h.glob he q6 hv
  have:=zxt h hvs (zau rfl hx) q2 q3 q4 (by simp)
  rw[zeQ]at this
  have hh:Done C K P w M R v H' (do pure (.value (←Instr.buildSlice t len (parts.map fun (i,x)=>(i,a.eval x))))):= .eff this
  unfold execOp
  rw[q1]
  exact hh
 .have hb':∀sz len z ps,k≠.bsl true sz len z ps:=fun sz len z ps e=>hb ⟨sz,len,z,ps,e⟩
  by_cases hm:∃t sz z,k= .mkslH t sz z
  .obtain⟨t,sz,z,rfl⟩:=hm
   obtain⟨t',x,y,e,i,zv,q1,q2,q3,q4,q5,q6,q7⟩:=zuj hl rfl
   simp only[OpK.erase,OpK.mksl.injEq]at q6
   obtain⟨rfl,rfl⟩:=q6
   obtain⟨p,q,rfl,hp,hq⟩:=(zm h.glob he q7 hv).two
   have hh:Done C K P w M R v H' (do pure (.value (←Instr.makeSlice t' (a.eval x) (a.eval y)))):= .eff (zvD h hp hq (zau rfl hx) q2 q3 q4 rfl q5)
   unfold execOp
   rw[q1]
   exact hh
  .by_cases hbh:∃t sz,k= .boxH t sz
   .obtain⟨tg,sz,rfl⟩:=hbh
    rcases zuk hl rfl with⟨t,sz',zv,q1,q2,q3,q4⟩|⟨t,x,sz',q1,q3,q4⟩
    .simp only[OpK.erase,OpK.box.injEq]at q3
     subst q3;subst q4
     simp only[vals,evS]at hv
     split at hv
     .rename_i v1 vs1 h1 h2
      cases h2;cases hv
      obtain⟨e0,_⟩:=zaW h1
      subst e0
      obtain⟨r,w',M',R',r1,r2,r3,r4⟩:=ztu (t:=t) h (VR.ofV w M R zv) (zau rfl hx)
      have hrun:(Instr.alloc t true (.tuple #[])).run P w= .ok r w':=by
       unfold Instr.alloc
       rw[zl (zaI q2 w)]
       exact r1
      have hh:Done C K P w M R v H' (do pure (Next.value (←Instr.alloc t true (.tuple #[])))):=⟨.value r,r,w',M',R',by rw[zl hrun];rfl,.inl rfl,r2,r3,r4⟩
      unfold execOp
      rw[q1]
      exact hh
     .cases hv
    .simp only[OpK.erase,OpK.box.injEq]at q3
     subst q3
     obtain⟨p,rfl,hp⟩:=(zm h.glob he q4 hv).one
     have hh:Done C K P w M R v H' (do pure (.value (←Instr.box t (a.eval x)))):= .eff (ztu h hp (zau rfl hx))
     unfold execOp
     rw[q1]
     exact hh
   .exact zkD h he hl (by cases k<;>first|rfl|exact hk|cases hsa) hv (zme hsa hk (fun t sz z e=>hm ⟨t,sz,z,e⟩) (fun t sz e=>hbh ⟨t,sz,e⟩) hb' hx)
end sound
end Go.Proofs.YtbddckhdbnmamaaGreat
