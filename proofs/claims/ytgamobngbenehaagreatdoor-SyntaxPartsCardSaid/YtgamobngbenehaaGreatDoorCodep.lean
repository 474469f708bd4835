/-
  From the model's operations to light ones, and what each does (conditions: none).
-/
import Derived.Test.YtgamobngbenehaaGreatDoorFrzp
import Derived.Test.YtgamobngbenehaaGreatDoorMem3p
namespace Go.Proofs.YtgamobngbenehaaGreatDoor
open Go Go.RowKit
set_option linter.unusedVariables false
set_option linter.unusedSimpArgs false
def srcs:List Operand→Option (List Src)
 | []=>some []
 |x::r=>match zcH x,srcs r with|some s,some ss=>some (s::ss)|_,_=>none
def zp9:Operand→Bool| .const (.slice none 0 0)=>true|_=>false
def zqa:Operand→Bool| .const (.pointer none)=>true|_=>false
def znT:Operand→Bool| .const .nilIface=>true|_=>false
theorem zl5 {o:Operand} (h:znT o=true):o= .const .nilIface:=by
 unfold znT at h;split at h
 .rfl
 .cases h
def zaB (P:Program) (op:BinOp) (t:TypeId) (x y:Operand):Option (OpK×List Src):=
 let eq:Option Bool:=match op with| .eql=>some false| .neq=>some true|_=>none
 match P.underlying t with
 |some (.int _)=>(srcs [x,y]).map (OpK.bin op,·)
 |some .string=>(srcs [x,y]).map (OpK.bin op,·)
 |some .bool=>eq.bind fun n=>(srcs [x,y]).map (OpK.eqb n,·)
 |some (.struct fs)=>eq.bind fun n=>if P.stoodInHeld t=false∧P.eqGuardType P.depth t=false then (ziR P 0 fs.toList).bind fun qs=>(srcs [x,y]).map (OpK.eqs n qs,·) else none
 |some (.array len e)=>eq.bind fun n=>(P.info? e).bind fun i=>if P.cellsOf e=1∧P.eqGuardType P.depth t=false then (zgk P e).bind fun q=>(srcs [x,y]).map (OpK.eqs n (List.replicate len q),·) else none
 |some (.slice _)=>eq.bind fun n=>if zp9 y then (srcs [x]).map (OpK.eqn false n,·) else none
 |some (.pointer _)=>eq.bind fun n=>if zqa y then (srcs [x]).map (OpK.eqn true n,·) else none
 |some (.interface _)=>eq.bind fun n=>if znT y then (srcs [x]).map (OpK.eqi n,·) else none
 |_=>none
def places (P:Program) (fs:Array Field):List Nat→Option (List (Nat×Nat))
 | []=>some []
 |i::r=>match zf7 P fs i,places P fs r with|some p,some ps=>some (p::ps)|_,_=>none
def isU8:Option TypeDesc→Bool|some (.int .u8)=>true|_=>false
theorem zko {d:Option TypeDesc} (h:isU8 d=true):d=some (.int .u8):=by unfold isU8 at h;split at h<;>simp_all
def isZ:Option Operand→Bool|some (.const (.int _ 0))=>true|_=>false
theorem znt {o:Option Operand} (h:isZ o=true):∃k,o=some (.const (.int k 0)):=by
 unfold isZ at h;split at h
 .exact⟨_,rfl⟩
 .cases h
def zbI (P:Program) (t:TypeId) (x:Operand) (lo hi:Option Operand) (m:Operand):Option (OpK×List Src):=
 if lo.isNone=true∧isZ hi=true∧isZ (some m)=true then (match P.underlying t with
  |some (.slice e)=>match szT P e with|some _=>(srcs [x]).map (OpK.emp,·)|none=>none
  |_=>none) else none
def lite (P:Program) (o:Oper):Option (OpK×List Src):=
 match o.op with
 | .move x=>(srcs [x]).map (OpK.mv,·)
 | .assign x=>(srcs [x]).map (OpK.mv,·)
 | .binOp op t x y _=>zaB P op t x y
 | .unOp .not _ x=>(srcs [x]).map (OpK.not,·)
 | .unOp .neg _ x=>(srcs [x]).map (OpK.neg,·)
 | .convert s d x=>match P.underlying s,P.underlying d with
  |some (.int _),some (.int k)=>(srcs [x]).map (OpK.conv k,·)
  |some .string,some (.slice e)=>if isU8 (P.underlying e)=true then (srcs [x]).map (OpK.s2b,·) else none
  |some (.slice e),some .string=>if isU8 (P.underlying e)=true then (srcs [x]).map (OpK.b2s,·) else none
  |_,_=>none
 | .load t x=>match aggT P t,szT P t with|some g,some n=>(srcs [x]).map (OpK.load false g n,·)|_,_=>none
 | .fieldAddr s x f=>match fldT P s f with|some (off,_)=>(srcs [x]).map (OpK.fld off,·)|none=>none
 | .field s x f=>match P.underlying s with
  |some (.struct fs)=>match fs[f]? with
   |some fd=>match aggT P fd.type,szT P fd.type with|some g,some n=>(srcs [x]).map (OpK.fldv g n fd.offset,·)|_,_=>none
   |none=>none
  |_=>none
 | .indexAddr t x i=>match P.underlying t with
  |some (.slice e)=>match szT P e with|some sz=>(srcs [x,i]).map (OpK.idxa false sz,·)|none=>none
  |some (.array n e)=>match szT P e with|some sz=>(srcs [x,i]).map (OpK.idxp n sz,·)|none=>none
  |_=>none
 | .index t x i=>match P.underlying t with|some .string=>(srcs [x,i]).map (OpK.idxs,·)|_=>none
 | .extract x i=>(srcs [x]).map (OpK.ext i,·)
 | .nilCheck x=>(srcs [x]).map (OpK.nilchk,·)
 | .build t parts=>match P.underlying t,zcx P t with
  |some (.struct fs),some (.agg zv)=>if fs.toList.all (fun f=>(szT P f.type).isSome) then (match places P fs (parts.toList.map (·.1)) with|some ps=>(srcs (parts.toList.map (·.2))).map (OpK.bld (zv.toList.map ofV1) ps,·)|none=>none) else none
  |some (.array _ e),some (.agg zv)=>(szT P e).bind fun sz=>(srcs (parts.toList.map (·.2))).map (OpK.bld (zv.toList.map ofV1) ((parts.toList.map (·.1)).map fun i=>(i* sz,sz)),·)
  |_,_=>none
 | .makeFunc (.func f) fs cs=>(srcs (fs.toList++cs.toList)).map (OpK.clo f fs.size,·)
 | .slice t x lo hi none=>match P.underlying t with
  |some (.slice e)=>match szT P e with|some sz=>(srcs (x::(lo.toList++hi.toList))).map (OpK.slc false false sz lo.isSome hi.isSome,·)|none=>none
  |some .string=>(srcs (x::(lo.toList++hi.toList))).map (OpK.slc false true 1 lo.isSome hi.isSome,·)
  |_=>none
 | .slice t x lo hi (some m)=>zbI P t x lo hi m
 | .alloc t=>match szT P t,zcx P t with|some sz,some zv=>some (if bxT.contains t then .boxT t sz else .box sz,[.c (ofV zv)])|_,_=>none
 | .box t x=>match szT P t with|some sz=>(srcs [x]).map (if bxT.contains t then OpK.boxT t sz else OpK.box sz,·)|none=>none
 | .buildSlice t len parts=>match P.underlying t with
  |some (.slice e)=>match szT P e,zcx P e with|some sz,some zv=>(srcs (parts.toList.map (·.2))).map (OpK.bsl false sz len (ofV zv) (parts.toList.map (·.1)),·)|_,_=>none
  |_=>none
 | .makeSlice t x y=>match P.underlying t with
  |some (.slice e)=>(P.info? e).bind fun i=>i.zero.bind fun zv=>if i.bytes≤65536 then (srcs [x,y]).map (OpK.mksl i.size (ofV zv),·) else none
  |_=>none
 | .makeMap _ none=>(srcs []).map (OpK.mkmap,·)
 | .range t x=>match P.underlying t with|some .string=>(srcs [x]).map (OpK.rngs,·)|some (.map _ _)=>(srcs [x]).map (OpK.rngm,·)|_=>none
 | .next x true=>(srcs [x]).map (OpK.nxt,·)
 | .entry x=>(srcs [x]).map (OpK.ent,·)
 | .insert t m k x=>match P.underlying t with
  |some (.map kt _)=>(P.underlying kt).bind fun d=>(keyQ d).bind fun q=>(srcs [m,k,x]).map (OpK.mput q,·)
  |_=>none
 | .mapUpdate t m k x=>match P.underlying t with
  |some (.map kt _)=>(P.underlying kt).bind fun d=>(keyQ d).bind fun q=>(srcs [m,k,x]).map (OpK.mput q,·)
  |_=>none
 | .lookup t m k ok=>match P.underlying t with
  |some (.map kt et)=>(P.underlying kt).bind fun d=>(keyQ d).bind fun q=>(zcx P et).bind fun zv=>(srcs [m,k]).map (OpK.mget q ok (ofV zv),·)
  |_=>none
 | .store t a x=>match szT P t with|some n=>(srcs [a,x]).map (OpK.store n,·)|none=>none
 | .call c=>match c.callee with
  | .builtin .len=>match c.argTypes[0]?,c.args.toList with
   |some t,[x]=>match P.underlying t with|some .string=>(srcs [x]).map (OpK.len true,·)|some (.slice _)=>(srcs [x]).map (OpK.len false,·)|some (.map _ _)=>(srcs [x]).map (OpK.lenm,·)|_=>none
   |_,_=>none
  | .builtin .append=>match c.argTypes.toList,c.args.toList with
   | [t,t'],[x,y]=>if t=t' then (match P.underlying t with
    |some (.slice e)=>match P.info? e with
     |some i=>match i.zero with|some zv=>if zv.cells.size=i.size∧i.bytes≤65536 then (if e=zaZ∧i.size=1∧bxT≠[] then (srcs [x,y]).map (OpK.appB,·) else (srcs [x,y]).map (OpK.app i.size,·)) else none|none=>none
     |none=>none
    |_=>none) else (match P.underlying t,P.underlying t' with
    |some (.slice e),some (.int _)=>match P.info? e with
     |some i=>match i.zero with|some zv=>if i.bytes≤65536 then (srcs [x,y]).map (OpK.appz i.size (ofV zv),·) else none|none=>none
     |none=>none
    |some (.slice e),some .string=>match P.info? e with
     |some i=>match i.zero with|some zv=>if zv.cells.size=i.size∧i.bytes≤65536∧i.size=1∧e=zaZ then (srcs [x,y]).map (OpK.apps,·) else none|none=>none
     |none=>none
    |_,_=>none)
   |_,_=>none
  | .builtin .cap=>match c.argTypes[0]?,c.args.toList with
   |some t,[x]=>match P.underlying t with|some (.slice _)=>(srcs [x]).map (OpK.cap0,·)|_=>none
   |_,_=>none
  | .builtin .min=>match c.args.toList with
   | [x,y]=>(srcs [x,y]).map (OpK.mn,·)
   |_=>none
  | .builtin .max=>match c.args.toList with
   | [x,y]=>(srcs [x,y]).map (OpK.mx,·)
   | [x,y,z]=>(srcs [x,y,z]).map (OpK.mx,·)
   |_=>none
  | .builtin .clear=>match c.argTypes.toList,c.args.toList with
   | [t],[x]=>match P.underlying t with
    |some (.slice e)=>(zcx P e).bind fun zv=>(szT P e).bind fun sz=>(srcs [x]).map (OpK.clr sz (ofV zv),·)
    |_=>none
   |_,_=>none
  | .value (.func f)=>(srcs c.args.toList).map (OpK.call f,·)
  | .value f=>(srcs (f::c.args.toList)).map (OpK.callv,·)
  |_=>none
 |_=>none
def OpK.isCall:OpK→Bool| .call _=>true| .callv=>true| .pcall _=>true| .pubcall _=>true| .fcall _=>true| .callA _ _=>true|_=>false
def OpK.erase:OpK→OpK
 | .load _ g n=> .load false g n
 | .idxa _ sz=> .idxa false sz
 | .slc _ s sz lo hi=> .slc false s sz lo hi
 | .bsl _ sz n z ps=> .bsl false sz n z ps
 | .pcall f=> .call f
 | .pubcall f=> .call f
 | .fcall f=> .call f
 | .storeA n=> .store n
 | .appA n=> .app n
 | .mkslH _ sz z=> .mksl sz z
 | .boxH _ sz=> .box sz
 | .appH _ sz=> .app sz
 | .loadB g n=> .load false g n
 | .storeB n=> .store n
 |k=>k
section sound
variable {P:Program} {C:zaT} {K:Ctx} {w:World} {M:Mut} {R:Res} {H:Heap} {E:Nat→AV} {a:Act}
theorem zf (hgl:GOk w M R) (he:∀i,VR w M R (E i) (a.tmps.getD i undef)):∀{ops:List Operand} {xs:List Src} {vs:List AV},srcs ops=some xs→vals E xs=some vs→VRs w M R vs (ops.map a.eval)
 | [],xs,vs,h,hv=>by simp[srcs]at h;subst h;simp[vals]at hv;subst hv;exact .nil
 |x::r,xs,vs,h,hv=>by
  simp only[srcs]at h
  split at h
  .rename_i s ss hs hss
   cases h
   simp only[vals]at hv
   split at hv
   .rename_i v vs' h1 h2
    cases hv
    have hx:=VR.src hgl he hs
    have:evS E s=v:=by unfold okO at h1;split at h1<;>simp_all
    rw[this]at hx
    exact .cons hx (zf hgl he hss h2)
   .cases hv
  .cases h
def Done (C:zaT) (K:Ctx) (P:Program) (w:World) (M:Mut) (R:Res) (v:AV) (H':Heap) (s:Sem Next):Prop:=
 ∃nx u w' M' R',s.run P w= .ok nx w'∧(nx= .value u∨(nx= .skip∧u=undef))∧VR w' M' R' v u∧WR C K w' M' R' H'∧Evol R M w R' M' w'
theorem Done.quiet {z:AV} {s:Sem Value} (h:WR C K w M R H) (hq:zae P w M R z s):Done C K P w M R z H (do pure (.value (←s))):=by
 obtain⟨r,h1,h2⟩:=hq
 exact⟨_,r,w,M,R,by rw[zh h1];rfl,.inl rfl,h2,h,Evol.refl _ _ _⟩
theorem Done.eff {z:AV} {H':Heap} {s:Sem Value} (hq:Eff C K P w M R z H' id s):Done C K P w M R z H' (do pure (.value (←s))):=by
 obtain⟨r,w',M',R',h1,h2,h3,h4⟩:=hq
 exact⟨_,r,w',M',R',by rw[zh h1];rfl,.inl rfl,h2,h3,h4⟩
theorem Done.effU {z:AV} {H':Heap} {s:Sem Unit} (hq:Eff C K P w M R z H' (fun _:Unit=>undef) s):Done C K P w M R z H' (do s;pure .skip):=by
 obtain⟨r,w',M',R',h1,h2,h3,h4⟩:=hq
 exact⟨_,undef,w',M',R',by rw[zh h1];rfl,.inr ⟨rfl,rfl⟩,h2,h3,h4⟩
theorem zar {x v:AV} (h:okO x=some v):x=v∧v≠.bad:=by unfold okO at h;split at h<;>simp_all
theorem zu {k:OpK} {vs:List AV} {v:AV} {H':Heap} (hk:k.quiet=true) (h:zao H k vs=some (v,H')):qx H k vs=v∧v≠.bad∧H'=H:=by
 unfold zao at h
 rw[if_pos hk]at h
 cases ho:okO (qx H k vs) with
 |none=>simp[ho]at h
 |some x=>
  simp only[ho,Option.map_some,Option.some.injEq,Prod.mk.injEq]at h
  obtain⟨rfl,rfl⟩:=h
  obtain⟨h1,h2⟩:=zar ho
  exact⟨h1,h2,rfl⟩
theorem zP {k:OpK} {vs:List AV} {v:AV} {H':Heap} (hk:k.quiet=false) (h:zao H k vs=some (v,H')):ex H k vs=some (v,H'):=by
 unfold zao at h
 rw[if_neg (by simp[hk])]at h
 exact h
theorem zc {α β:Type} {x:Option α} {k k':β} {y:α} (h:x.map (k,·)=some (k',y)):x=some y∧k'=k:=by
 cases x<;>simp at h
 exact⟨by rw[h.2],h.1.symm⟩
theorem VRs.one {x:Operand} {vs:List AV} (h:VRs w M R vs ([x].map a.eval)):∃y,vs=[y]∧VR w M R y (a.eval x):=by
 match vs,h with
 | [],h=>simp[VRs]at h
 | [y],h=>exact⟨y,rfl,h.2 0 y _ rfl rfl⟩
 |_::_::_,h=>simp[VRs]at h
theorem VRs.two {x y:Operand} {vs:List AV} (h:VRs w M R vs ([x,y].map a.eval)):∃p q,vs=[p,q]∧VR w M R p (a.eval x)∧VR w M R q (a.eval y):=by
 match vs,h with
 | [],h=>simp[VRs]at h
 | [_],h=>simp[VRs]at h
 | [p,q],h=>exact⟨p,q,rfl,h.2 0 p _ rfl rfl,h.2 1 q _ rfl rfl⟩
 |_::_::_::_,h=>simp[VRs]at h
theorem VRs.three {x y z:Operand} {vs:List AV} (h:VRs w M R vs ([x,y,z].map a.eval)):∃p q r,vs=[p,q,r]∧VR w M R p (a.eval x)∧VR w M R q (a.eval y)∧VR w M R r (a.eval z):=by
 match vs,h with
 | [],h=>simp[VRs]at h
 | [_],h=>simp[VRs]at h
 | [_,_],h=>simp[VRs]at h
 | [p,q,r],h=>exact⟨p,q,r,rfl,h.2 0 p _ rfl rfl,h.2 1 q _ rfl rfl,h.2 2 r _ rfl rfl⟩
 |_::_::_::_::_,h=>simp[VRs]at h
theorem bind_some {α β:Type} {x:Option α} {f:α→Option β} {r:β} (h:x.bind f=some r):∃y,x=some y∧f y=some r:=Option.bind_eq_some_iff.1 h
theorem zdE (ρ:Operand→Value) (parts:Array (Nat×Operand)):((parts.toList.map (·.1)).zip ((parts.toList.map (·.2)).map ρ)).toArray=parts.map fun (i,x)=>(i,ρ x):=by
 apply Array.ext'
 rw[Array.toList_map]
 show (parts.toList.map (·.1)).zip ((parts.toList.map (·.2)).map ρ)=_
 generalize parts.toList=l
 induction l with
 |nil=>rfl
 |cons p l ih=>simp only[List.map_cons,List.zip_cons_cons,ih]
theorem zeL {fs:Array Field}:∀{is:List Nat} {ps:List (Nat×Nat)},places P fs is=some ps→is.map (zf7 P fs)=ps.map some
 | [],ps,h=>by simp[places]at h;subst h;rfl
 |i::r,ps,h=>by
  simp only[places]at h
  split at h
  .rename_i p ps' h1 h2
   cases h
   simp[h1,zeL h2]
  .cases h
theorem zlc {op:BinOp} {t:TypeId} {x y:Operand} {k:OpK} {xs:List Src} {vs:List AV} {v:AV} {H':Heap} (h:WR C K w M R H) (he:∀i,VR w M R (E i) (a.tmps.getD i undef)) (hl:zaB P op t x y=some (k,xs)) (hv:vals E xs=some vs) (hx:zao H k vs=some (v,H')):
  Done C K P w M R v H' (do pure (.value (←(do eqGuard op t x y (a.eval x) (a.eval y);binOp op t (a.eval x) (a.eval y):Sem Value)))):=by
 unfold zaB at hl
 have heq:∀n,(match op with| .eql=>some false| .neq=>some true|_=>none:Option Bool)=some n→op=if n then .neq else .eql:=by
  intro n hn;cases op<;>simp at hn<;>subst hn<;>rfl
 simp only at hl
 split at hl
 .obtain⟨h1,rfl⟩:=zc hl
  obtain⟨p,q,rfl,hp,hq⟩:=(zf h.glob he h1 hv).two
  obtain⟨e1,e2,rfl⟩:=zu rfl hx
  exact .quiet h (zp3 hp hq e1 e2)
 .obtain⟨h1,rfl⟩:=zc hl
  obtain⟨p,q,rfl,hp,hq⟩:=(zf h.glob he h1 hv).two
  obtain⟨e1,e2,rfl⟩:=zu rfl hx
  exact .quiet h (zp3 hp hq e1 e2)
 .rename_i ht
  obtain⟨n,hn,hl⟩:=Option.bind_eq_some_iff.1 hl
  obtain⟨h1,rfl⟩:=zc hl
  obtain⟨p,q,rfl,hp,hq⟩:=(zf h.glob he h1 hv).two
  obtain⟨e1,e2,rfl⟩:=zu rfl hx
  exact .quiet h (zrr hp hq e1 e2 (heq n hn) ht)
 .rename_i fs ht
  obtain⟨n,hn,hl⟩:=Option.bind_eq_some_iff.1 hl
  split at hl
  .rename_i hc
   obtain⟨qs,hqs,hl⟩:=Option.bind_eq_some_iff.1 hl
   obtain⟨h1,rfl⟩:=zc hl
   obtain⟨p,q,rfl,hp,hq⟩:=(zf h.glob he h1 hv).two
   obtain⟨e1,e2,rfl⟩:=zu rfl hx
   exact .quiet h (zrp hp hq e1 e2 (heq n hn) ht hqs hc.1 hc.2)
  .cases hl
 .rename_i len e ht
  obtain⟨n,hn,hl⟩:=Option.bind_eq_some_iff.1 hl
  obtain⟨i,hi,hl⟩:=Option.bind_eq_some_iff.1 hl
  split at hl
  .rename_i hc
   obtain⟨q,hq,hl⟩:=Option.bind_eq_some_iff.1 hl
   obtain⟨h1,rfl⟩:=zc hl
   obtain⟨p,q,rfl,hp,hq'⟩:=(zf h.glob he h1 hv).two
   obtain⟨e1,e2,rfl⟩:=zu rfl hx
   exact .quiet h (zjG hp hq' e1 e2 (heq n hn) ht hi hc.1 hq hc.2)
  .cases hl
 .rename_i e ht
  obtain⟨n,hn,hl⟩:=Option.bind_eq_some_iff.1 hl
  split at hl
  .rename_i hy
   obtain⟨h1,rfl⟩:=zc hl
   obtain⟨p,rfl,hp⟩:=(zf h.glob he h1 hv).one
   obtain⟨e1,e2,rfl⟩:=zu rfl hx
   refine .quiet h (zp0 hp e1 e2 (heq n hn) (fun _=>⟨e,ht,?_⟩) (fun h=>by cases h))
   unfold zp9 at hy
   split at hy
   .rfl
   .cases hy
  .cases hl
 .rename_i e ht
  obtain⟨n,hn,hl⟩:=Option.bind_eq_some_iff.1 hl
  split at hl
  .rename_i hy
   obtain⟨h1,rfl⟩:=zc hl
   obtain⟨p,rfl,hp⟩:=(zf h.glob he h1 hv).one
   obtain⟨e1,e2,rfl⟩:=zu rfl hx
   refine .quiet h (zp0 hp e1 e2 (heq n hn) (fun h=>by cases h) (fun _=>⟨e,ht,?_⟩))
   unfold zqa at hy
   split at hy
   .rfl
   .cases hy
  .cases hl
 .rename_i ms ht
  obtain⟨n,hn,hl⟩:=Option.bind_eq_some_iff.1 hl
  split at hl
  .rename_i hy
   obtain⟨h1,rfl⟩:=zc hl
   obtain⟨p,rfl,hp⟩:=(zf h.glob he h1 hv).one
   obtain⟨e1,e2,rfl⟩:=zu rfl hx
   have hoy:=zl5 hy
   subst hoy
   exact .quiet h (zrq (ox:=x) (oy:= .const .nilIface) hp e1 e2 (heq n hn) ht rfl)
  .cases hl
 .cases hl
theorem zhY {o:Oper} {k:OpK} {xs:List Src} {vs:List AV} {v:AV} {H':Heap} (h:WR C K w M R H) (he:∀i,VR w M R (E i) (a.tmps.getD i undef)) (hl:lite P o=some (k,xs)) (hk:k.isCall=false) (hv:vals E xs=some vs) (hx:zao H k vs=some (v,H')):
  Done C K P w M R v H' (execOp a.eval o):=by
 obtain⟨dst,op,ty,pos,aft,gd⟩:=o
 cases op with
 |move x=>
  obtain⟨h1,rfl⟩:=zc hl
  obtain⟨p,rfl,hp⟩:=(zf h.glob he h1 hv).one
  obtain⟨e1,e2,rfl⟩:=zu rfl hx
  simp only[qx]at e1
  subst e1
  exact⟨_,_,w,M,R,rfl,.inl rfl,hp,h,Evol.refl _ _ _⟩
 |assign x=>
  obtain⟨h1,rfl⟩:=zc hl
  obtain⟨p,rfl,hp⟩:=(zf h.glob he h1 hv).one
  obtain⟨e1,e2,rfl⟩:=zu rfl hx
  simp only[qx]at e1
  subst e1
  exact⟨_,_,w,M,R,rfl,.inl rfl,hp,h,Evol.refl _ _ _⟩
 |binOp op t x y yt=>exact zlc h he hl hv hx
 |unOp op t x=>
  cases op<;>simp only[lite]at hl<;>try cases hl
  .obtain⟨h1,rfl⟩:=zc hl
   obtain⟨p,rfl,hp⟩:=(zf h.glob he h1 hv).one
   obtain⟨e1,e2,rfl⟩:=zu rfl hx
   exact .quiet h (zrl hp e1 e2)
  .obtain⟨h1,rfl⟩:=zc hl
   obtain⟨p,rfl,hp⟩:=(zf h.glob he h1 hv).one
   obtain⟨e1,e2,rfl⟩:=zu rfl hx
   exact .quiet h (zrk hp e1 e2)
 |convert s d x=>
  simp only[lite]at hl
  split at hl
  .rename_i k1 k2 hs hd
   obtain⟨h1,rfl⟩:=zc hl
   obtain⟨p,rfl,hp⟩:=(zf h.glob he h1 hv).one
   obtain⟨e1,e2,rfl⟩:=zu rfl hx
   exact .quiet h (zp1 hp e1 e2 hs hd)
  .rename_i e hs hd
   split at hl
   .rename_i h8
    obtain⟨h1,rfl⟩:=zc hl
    obtain⟨p,rfl,hp⟩:=(zf h.glob he h1 hv).one
    exact .eff (zsZ h hp (zP rfl hx) hs hd (zko h8))
   .cases hl
  .rename_i e hs hd
   split at hl
   .rename_i h8
    obtain⟨h1,rfl⟩:=zc hl
    obtain⟨p,rfl,hp⟩:=(zf h.glob he h1 hv).one
    obtain⟨e1,e2,rfl⟩:=zu rfl hx
    exact .quiet h (zrw h.heap hp e1 e2 hs (zko h8) hd)
   .cases hl
  .cases hl
 |load t x=>
  simp only[lite]at hl
  split at hl
  .rename_i g n hg hn
   obtain⟨h1,rfl⟩:=zc hl
   obtain⟨p,rfl,hp⟩:=(zf h.glob he h1 hv).one
   obtain⟨e1,e2,rfl⟩:=zu rfl hx
   simp only[qx,Bool.false_and,Bool.false_eq_true,if_false]at e1
   exact .quiet h (zni h.heap hp e1 e2 hg hn)
  .cases hl
 |fieldAddr s x f=>
  simp only[lite]at hl
  split at hl
  .rename_i off ft hf
   obtain⟨h1,rfl⟩:=zc hl
   obtain⟨p,rfl,hp⟩:=(zf h.glob he h1 hv).one
   obtain⟨e1,e2,rfl⟩:=zu rfl hx
   exact .quiet h (zrn hp e1 e2 hf)
  .cases hl
 |field s x f=>
  simp only[lite]at hl
  split at hl
  .rename_i fs hfs
   split at hl
   .rename_i fd hfd
    split at hl
    .rename_i g n hg hn
     obtain⟨h1,rfl⟩:=zc hl
     obtain⟨p,rfl,hp⟩:=(zf h.glob he h1 hv).one
     obtain⟨e1,e2,rfl⟩:=zu rfl hx
     exact .quiet h (zpZ hp e1 e2 hfs hfd rfl rfl hg hn)
    .cases hl
   .cases hl
  .cases hl
 |indexAddr t x i=>
  simp only[lite]at hl
  split at hl
  .rename_i e ht
   split at hl
   .rename_i sz hs
    obtain⟨h1,rfl⟩:=zc hl
    obtain⟨p,q,rfl,hp,hq⟩:=(zf h.glob he h1 hv).two
    obtain⟨e1,e2,rfl⟩:=zu rfl hx
    simp only[qx,Bool.false_and,Bool.false_eq_true,if_false]at e1
    exact .quiet h (zpY h.heap hp hq e1 e2 ht hs)
   .cases hl
  .rename_i n e ht
   split at hl
   .rename_i sz hs
    obtain⟨h1,rfl⟩:=zc hl
    obtain⟨p,q,rfl,hp,hq⟩:=(zf h.glob he h1 hv).two
    obtain⟨e1,e2,rfl⟩:=zu rfl hx
    exact .quiet h (zpX hp hq e1 e2 ht hs)
   .cases hl
  .cases hl
 |index t x i=>
  simp only[lite]at hl
  split at hl
  .rename_i ht
   obtain⟨h1,rfl⟩:=zc hl
   obtain⟨p,q,rfl,hp,hq⟩:=(zf h.glob he h1 hv).two
   obtain⟨e1,e2,rfl⟩:=zu rfl hx
   exact .quiet h (zpW hp hq e1 e2 ht)
  .cases hl
 |extract x i=>
  obtain⟨h1,rfl⟩:=zc hl
  obtain⟨p,rfl,hp⟩:=(zf h.glob he h1 hv).one
  obtain⟨e1,e2,rfl⟩:=zu rfl hx
  exact .quiet h (zro hp e1 e2)
 |nilCheck x=>
  obtain⟨h1,rfl⟩:=zc hl
  obtain⟨p,rfl,hp⟩:=(zf h.glob he h1 hv).one
  obtain⟨e1,e2,rfl⟩:=zu rfl hx
  obtain⟨r1,r2⟩:=zlY hp e1 e2 a.eval x rfl dst ty pos aft gd
  exact⟨_,_,w,M,R,r1,.inl rfl,r2,h,Evol.refl _ _ _⟩
 |build t parts=>
  simp only[lite]at hl
  split at hl
  .rename_i fs zv ht hz
   split at hl
   .rename_i hall
    split at hl
    .rename_i ps hps
     obtain⟨h1,rfl⟩:=zc hl
     have hvs:=zf h.glob he h1 hv
     obtain⟨e1,e2,rfl⟩:=zu rfl hx
     have:=zrv (P:=P) (w:=w) (M:=M) (R:=R) ht hz hall (zeL hps) (by simp) hvs e1 e2
     refine .quiet h ?_
     rw[zdE]at this
     exact this
    .cases hl
   .cases hl
  .rename_i n e zv ht hz
   obtain⟨sz,hs,hl⟩:=bind_some hl
   obtain⟨h1,rfl⟩:=zc hl
   have hvs:=zf h.glob he h1 hv
   obtain⟨e1,e2,rfl⟩:=zu rfl hx
   have:=zjH (P:=P) (w:=w) (M:=M) (R:=R) (is:=parts.toList.map (·.1)) ht hz hs (by simp) hvs (by simpa only[qx]using e1) e2
   refine .quiet h ?_
   rw[zdE]at this
   exact this
  .cases hl
 |makeFunc fn fs cs=>
  cases fn<;>simp only[lite]at hl<;>try cases hl
  obtain⟨h1,rfl⟩:=zc hl
  have hvs:=zf h.glob he h1 hv
  obtain⟨e1,e2,rfl⟩:=zu rfl hx
  refine .quiet h (zru (n:=fs.size) (vs:=vs) ?_ (by simp) e1)
  simpa using hvs
 |slice t x lo hi mx=>
  cases mx with
  |some m=>
   simp only[lite,zbI]at hl
   split at hl
   .rename_i hc
    obtain⟨c1,c2,c3⟩:=hc
    obtain⟨k1,rfl⟩:=znt c2
    obtain⟨k2,c4⟩:=znt c3
    cases c4
    cases lo with
    |some l=>cases c1
    |none=>
    split at hl
    .rename_i e ht
     split at hl
     .rename_i sz hs
      obtain⟨h1,rfl⟩:=zc hl
      obtain⟨p,rfl,hp⟩:=(zf h.glob he h1 hv).one
      obtain⟨f1,f2,rfl⟩:=zu rfl hx
      exact .quiet h (zrt hp f1 f2 ht hs)
     .cases hl
    .cases hl
   .cases hl
  |none=>
   simp only[lite]at hl
   split at hl
   .rename_i e ht
    split at hl
    .rename_i sz hs
     obtain⟨h1,rfl⟩:=zc hl
     have hvs:=zf h.glob he h1 hv
     cases vs with
     |nil=>simp[VRs]at hvs
     |cons p bs=>
      obtain⟨pv,vs',e0,hp,hbs⟩:=hvs.inv_cons
      simp only[List.map_cons,List.cons.injEq]at e0
      obtain⟨rfl,rfl⟩:=e0
      obtain⟨e1,e2,rfl⟩:=zu rfl hx
      simp only[qx,Bool.false_and,Bool.false_eq_true,if_false]at e1
      refine .quiet h (zpR h.heap (los:=lo.map a.eval) (his:=hi.map a.eval) hp ?_ (by simp) (by simp) e1 e2 (fun h=>by cases h) (fun _=>⟨e,ht,hs⟩))
      cases lo<;>cases hi<;>simpa using hbs
    .cases hl
   .rename_i ht
    obtain⟨h1,rfl⟩:=zc hl
    have hvs:=zf h.glob he h1 hv
    cases vs with
    |nil=>simp[VRs]at hvs
    |cons p bs=>
     obtain⟨pv,vs',e0,hp,hbs⟩:=hvs.inv_cons
     simp only[List.map_cons,List.cons.injEq]at e0
     obtain⟨rfl,rfl⟩:=e0
     obtain⟨e1,e2,rfl⟩:=zu rfl hx
     simp only[qx,Bool.false_and,Bool.false_eq_true,if_false]at e1
     refine .quiet h (zpR h.heap (los:=lo.map a.eval) (his:=hi.map a.eval) hp ?_ (by simp) (by simp) e1 e2 (fun _=>ht) (fun h=>by cases h))
     cases lo<;>cases hi<;>simpa using hbs
   .cases hl
 |alloc t=>
  simp only[lite]at hl
  split at hl
  .rename_i sz zv hs hz
   cases hl
   simp only[vals,evS]at hv
   split at hv
   .rename_i v1 vs1 h1 h2
    cases h2
    cases hv
    obtain⟨e0,_⟩:=zar h1
    subst e0
    obtain⟨r,w',M',R',r1,r2,r3,r4⟩:Eff C K P w M R v H' id (Instr.box t zv):=by
     by_cases hbx:bxT.contains t=true
     .rw[if_pos hbx]at hx
      exact znw h (VR.ofV w M R zv) (zP rfl hx)
     .rw[if_neg hbx]at hx
      exact zqN h (VR.ofV w M R zv) (t:=t) (zP rfl hx)
    refine⟨.value r,r,w',M',R',?_,.inl rfl,r2,r3,r4⟩
    show (do pure (Next.value (←Instr.alloc t true (.tuple #[]))):Sem Next).run P w=_
    have hrun:(Instr.alloc t true (.tuple #[])).run P w= .ok r w':=by
     unfold Instr.alloc
     rw[zh (zap hz w)]
     exact r1
    rw[zh hrun]
    rfl
   .cases hv
  .cases hl
 |box t x=>
  simp only[lite]at hl
  split at hl
  .rename_i sz hs
   obtain⟨h1,rfl⟩:=zc hl
   obtain⟨p,rfl,hp⟩:=(zf h.glob he h1 hv).one
   by_cases hbx:bxT.contains t=true
   .rw[if_pos hbx]at hx
    exact .eff (znw h hp (zP rfl hx))
   .rw[if_neg hbx]at hx
    exact .eff (zqN h hp (zP rfl hx))
  .cases hl
 |buildSlice t len parts=>
  simp only[lite]at hl
  split at hl
  .rename_i e ht
   split at hl
   .rename_i sz zv hs hz
    obtain⟨h1,rfl⟩:=zc hl
    have hvs:=zf h.glob he h1 hv
    have:=zqM h hvs (zP rfl hx) ht hs hz (by simp)
    refine .eff ?_
    rw[zdE]at this
    exact this
   .cases hl
  .cases hl
 |store t p x=>
  simp only[lite]at hl
  split at hl
  .rename_i n hn
   obtain⟨h1,rfl⟩:=zc hl
   obtain⟨p',q,rfl,hp,hq⟩:=(zf h.glob he h1 hv).two
   exact .effU (zpg h hp hq (zP rfl hx) hn)
  .cases hl
 |call c=>
  obtain⟨callee,args,ts⟩:=c
  cases callee with
  |value f=>
   simp only[lite]at hl
   cases f<;>simp only at hl<;>(obtain⟨_,rfl⟩:=zc hl;cases hk)
  |invoke r m=>simp only[lite]at hl;cases hl
  |builtin b=>
   cases b<;>simp only[lite]at hl<;>try cases hl
   .split at hl
    .rename_i t t' x y hts hargs
     split at hl
     .rename_i htt
      subst htt
      split at hl
      .rename_i e ht
       split at hl
       .rename_i i hi
        split at hl
        .rename_i zv hz
         split at hl
         .rename_i hc
          have e1:args.map a.eval=#[a.eval x,a.eval y]:=by apply Array.ext';simp[hargs]
          have e2:ts=#[t,t]:=by apply Array.ext';simp[hts]
          split at hl
          .rename_i hb
           obtain⟨rfl,hb2,_⟩:=hb
           obtain⟨h1,rfl⟩:=zc hl
           obtain⟨p,q,rfl,hp,hq⟩:=(zf h.glob he h1 hv).two
           have:=zqR h (ty:=ty) ⟨ht,hi,hb2,hz,by rw[hc.1,hb2],hc.2⟩ hp hq (zP rfl hx)
           rw[←e1,←e2]at this
           exact .eff this
          .obtain⟨h1,rfl⟩:=zc hl
           obtain⟨p,q,rfl,hp,hq⟩:=(zf h.glob he h1 hv).two
           have:=zs2 h (ty:=ty) ⟨ht,hi,rfl,hz,hc.1,hc.2⟩ hp hq (zP rfl hx)
           rw[←e1,←e2]at this
           exact .eff this
         .cases hl
        .cases hl
       .cases hl
      .cases hl
     .split at hl
      .rename_i e kn ht htn
       split at hl
       .rename_i i hi
        split at hl
        .rename_i zv hz
         split at hl
         .rename_i hc
          obtain⟨h1,rfl⟩:=zc hl
          obtain⟨p,q,rfl,hp,hq⟩:=(zf h.glob he h1 hv).two
          have:=zqO h (ty:=ty) hp hq (zP rfl hx) ht htn hi hz rfl hc
          have e1:args.map a.eval=#[a.eval x,a.eval y]:=by apply Array.ext';simp[hargs]
          have e2:ts=#[t,t']:=by apply Array.ext';simp[hts]
          rw[←e1,←e2]at this
          exact .eff this
         .cases hl
        .cases hl
       .cases hl
      .rename_i e ht htn
       split at hl
       .rename_i i hi
        split at hl
        .rename_i zv hz
         split at hl
         .rename_i hc
          obtain⟨h1,rfl⟩:=zc hl
          obtain⟨p,q,rfl,hp,hq⟩:=(zf h.glob he h1 hv).two
          obtain⟨c1,c2,c3,rfl⟩:=hc
          have:=zqP h (ty:=ty) ⟨ht,hi,c3,hz,by rw[c1,c3],c2⟩ htn hp hq (zP rfl hx)
          have e1:args.map a.eval=#[a.eval x,a.eval y]:=by apply Array.ext';simp[hargs]
          have e2:ts=#[t,t']:=by apply Array.ext';simp[hts]
          rw[←e1,←e2]at this
          exact .eff this
         .cases hl
        .cases hl
       .cases hl
      .cases hl
    .cases hl
   .split at hl
    .rename_i t x hts hargs
     have e1:args.map a.eval=#[a.eval x]:=by apply Array.ext';simp[hargs]
     split at hl
     .rename_i e ht
      obtain⟨h1,rfl⟩:=zc hl
      obtain⟨p,rfl,hp⟩:=(zf h.glob he h1 hv).one
      obtain⟨f1,f2,rfl⟩:=zu rfl hx
      have:=zp2 (ty:=ty) hp f1 f2 hts ⟨e,ht⟩
      rw[←e1]at this
      exact .quiet h this
     .cases hl
    .cases hl
   .split at hl
    .rename_i t x hts hargs
     have e1:args.map a.eval=#[a.eval x]:=by apply Array.ext';simp[hargs]
     have e2:ts=#[t]:=by apply Array.ext';simp[hts]
     split at hl
     .rename_i e ht
      obtain⟨zv,hz,hl⟩:=bind_some hl
      obtain⟨sz,hs,hl⟩:=bind_some hl
      obtain⟨h1,rfl⟩:=zc hl
      obtain⟨p,rfl,hp⟩:=(zf h.glob he h1 hv).one
      have:=zs1 (ty:=ty) h hp (zP rfl hx) ht hz
      rw[←e1,←e2]at this
      exact .eff this
     .cases hl
    .cases hl
   .split at hl
    .rename_i t x hts hargs
     have e1:args.map a.eval=#[a.eval x]:=by apply Array.ext';simp[hargs]
     split at hl
     .rename_i ht
      obtain⟨h1,rfl⟩:=zc hl
      obtain⟨p,rfl,hp⟩:=(zf h.glob he h1 hv).one
      obtain⟨f1,f2,rfl⟩:=zu rfl hx
      have:=zpV (ty:=ty) hp f1 f2 hts (fun _=>ht) (fun h=>by cases h)
      rw[←e1]at this
      exact .quiet h this
     .rename_i e ht
      obtain⟨h1,rfl⟩:=zc hl
      obtain⟨p,rfl,hp⟩:=(zf h.glob he h1 hv).one
      obtain⟨f1,f2,rfl⟩:=zu rfl hx
      have:=zpV (ty:=ty) hp f1 f2 hts (fun h=>by cases h) (fun _=>⟨e,ht⟩)
      rw[←e1]at this
      exact .quiet h this
     .rename_i kt et ht
      obtain⟨h1,rfl⟩:=zc hl
      obtain⟨p,rfl,hp⟩:=(zf h.glob he h1 hv).one
      obtain⟨f1,f2,rfl⟩:=zu rfl hx
      have:=zpU (ty:=ty) h.heap hp f1 f2 hts ht
      rw[←e1]at this
      exact .quiet h this
     .cases hl
    .cases hl
   .split at hl
    .rename_i x y hargs
     have e1:args.map a.eval=#[a.eval x,a.eval y]:=by apply Array.ext';simp[hargs]
     obtain⟨h1,rfl⟩:=zc hl
     obtain⟨p,q,rfl,hp,hq⟩:=(zf h.glob he h1 hv).two
     obtain⟨f1,f2,rfl⟩:=zu rfl hx
     have:=q_mx (P:=P) (ts:=ts) (ty:=ty) hp hq f1 f2
     rw[←e1]at this
     exact .quiet h this
    .rename_i x y x3 hargs
     have e1:args.map a.eval=#[a.eval x,a.eval y,a.eval x3]:=by apply Array.ext';simp[hargs]
     obtain⟨h1,rfl⟩:=zc hl
     obtain⟨p,q,q3,rfl,hp,hq,hq3⟩:=(zf h.glob he h1 hv).three
     obtain⟨f1,f2,rfl⟩:=zu rfl hx
     have:=zrm (P:=P) (ts:=ts) (ty:=ty) hp hq hq3 f1 f2
     rw[←e1]at this
     exact .quiet h this
    .cases hl
   .split at hl
    .rename_i x y hargs
     have e1:args.map a.eval=#[a.eval x,a.eval y]:=by apply Array.ext';simp[hargs]
     obtain⟨h1,rfl⟩:=zc hl
     obtain⟨p,q,rfl,hp,hq⟩:=(zf h.glob he h1 hv).two
     obtain⟨f1,f2,rfl⟩:=zu rfl hx
     have:=q_mn (P:=P) (ts:=ts) (ty:=ty) hp hq f1 f2
     rw[←e1]at this
     exact .quiet h this
    .cases hl
 |makeSlice t x y=>
  simp only[lite]at hl
  split at hl
  .rename_i e ht
   obtain⟨i,hi,hl⟩:=bind_some hl
   obtain⟨zv,hz,hl⟩:=bind_some hl
   split at hl
   .rename_i hb
    obtain⟨h1,rfl⟩:=zc hl
    obtain⟨p,q,rfl,hp,hq⟩:=(zf h.glob he h1 hv).two
    exact .eff (zqL h hp hq (zP rfl hx) ht hi hz rfl hb)
   .cases hl
  .cases hl
 |range t x=>
  simp only[lite]at hl
  split at hl
  .rename_i ht
   obtain⟨h1,rfl⟩:=zc hl
   obtain⟨p,rfl,hp⟩:=(zf h.glob he h1 hv).one
   exact .eff (zqJ h hp (zP rfl hx) ht)
  .rename_i kt et ht
   obtain⟨h1,rfl⟩:=zc hl
   obtain⟨p,rfl,hp⟩:=(zf h.glob he h1 hv).one
   exact .eff (zqK h hp (zP rfl hx) ht)
  .cases hl
 |entry x=>
  simp only[lite]at hl
  obtain⟨h1,rfl⟩:=zc hl
  obtain⟨p,rfl,hp⟩:=(zf h.glob he h1 hv).one
  obtain⟨e1,e2,rfl⟩:=zu rfl hx
  exact .quiet h (zrs h.heap hp e1 e2)
 |next x b=>
  cases b with
  |false=>simp only[lite]at hl;cases hl
  |true=>
   simp only[lite]at hl
   obtain⟨h1,rfl⟩:=zc hl
   obtain⟨p,rfl,hp⟩:=(zf h.glob he h1 hv).one
   exact .eff (zs0 h hp (zP rfl hx))
 |makeMap t r=>
  cases r with
  |some r=>simp only[lite]at hl;cases hl
  |none=>
   simp only[lite]at hl
   obtain⟨h1,rfl⟩:=zc hl
   have:=(zf h.glob he h1 hv)
   have hvs:vs=[]:=List.length_eq_zero_iff.1 (by have:=this.1;simpa using this.symm)
   subst hvs
   exact .eff (zpi h (zP rfl hx))
 |insert t m k0 x=>
  simp only[lite]at hl
  split at hl
  .rename_i kt et ht
   obtain⟨d,hd,hl⟩:=bind_some hl
   obtain⟨q,hq,hl⟩:=bind_some hl
   obtain⟨h1,rfl⟩:=zc hl
   obtain⟨p1,p2,p3,rfl,q1,q2,q3⟩:=(zf h.glob he h1 hv).three
   exact .effU (znv h q1 q2 q3 (zP rfl hx) ht hd hq)
  .cases hl
 |mapUpdate t m k0 x=>
  simp only[lite]at hl
  split at hl
  .rename_i kt et ht
   obtain⟨d,hd,hl⟩:=bind_some hl
   obtain⟨q,hq,hl⟩:=bind_some hl
   obtain⟨h1,rfl⟩:=zc hl
   obtain⟨p1,p2,p3,rfl,q1,q2,q3⟩:=(zf h.glob he h1 hv).three
   exact .effU (znv h q1 q2 q3 (zP rfl hx) ht hd hq)
  .cases hl
 |lookup t m k0 ok=>
  simp only[lite]at hl
  split at hl
  .rename_i kt et ht
   obtain⟨d,hd,hl⟩:=bind_some hl
   obtain⟨q,hq,hl⟩:=bind_some hl
   obtain⟨zv,hz,hl⟩:=bind_some hl
   obtain⟨h1,rfl⟩:=zc hl
   obtain⟨p1,p2,rfl,q1,q2⟩:=(zf h.glob he h1 hv).two
   obtain⟨e1,e2,rfl⟩:=zu rfl hx
   exact .quiet h (zpT h.heap q1 q2 e1 e2 ht hd hq hz)
  .cases hl
 |_=>simp only[lite]at hl;cases hl
def OpK.isBsl:OpK→Bool| .bsl _ _ _ _ _=>true|_=>false
theorem ze4 {op:BinOp} {t:TypeId} {x y:Operand} {kk:OpK} {xs:List Src} (hl:zaB P op t x y=some (kk,xs)):kk.isBsl=false∧kk.isCall=false:=by
 unfold zaB at hl
 simp only at hl
 split at hl
 .rw[(zc hl).2];exact⟨rfl,rfl⟩
 .rw[(zc hl).2];exact⟨rfl,rfl⟩
 .obtain⟨n,hn,hl⟩:=Option.bind_eq_some_iff.1 hl
  rw[(zc hl).2];exact⟨rfl,rfl⟩
 .obtain⟨n,hn,hl⟩:=Option.bind_eq_some_iff.1 hl
  split at hl
  .obtain⟨qs,hqs,hl⟩:=Option.bind_eq_some_iff.1 hl
   rw[(zc hl).2];exact⟨rfl,rfl⟩
  .cases hl
 .obtain⟨n,hn,hl⟩:=Option.bind_eq_some_iff.1 hl
  obtain⟨i,hi,hl⟩:=Option.bind_eq_some_iff.1 hl
  split at hl
  .obtain⟨q,hq,hl⟩:=Option.bind_eq_some_iff.1 hl
   rw[(zc hl).2];exact⟨rfl,rfl⟩
  .cases hl
 .obtain⟨n,hn,hl⟩:=Option.bind_eq_some_iff.1 hl
  split at hl
  .rw[(zc hl).2];exact⟨rfl,rfl⟩
  .cases hl
 .obtain⟨n,hn,hl⟩:=Option.bind_eq_some_iff.1 hl
  split at hl
  .rw[(zc hl).2];exact⟨rfl,rfl⟩
  .cases hl
 .obtain⟨n,hn,hl⟩:=Option.bind_eq_some_iff.1 hl
  split at hl
  .rw[(zc hl).2];exact⟨rfl,rfl⟩
  .cases hl
 .cases hl
theorem zmd {o:Oper} {kk:OpK} {xs:List Src} (hlt:lite P o=some (kk,xs)) (hb:kk.isBsl=true):
  ∃t len parts e sz zv,o.op= .buildSlice t len parts∧P.underlying t=some (.slice e)∧szT P e=some sz∧zcx P e=some zv∧kk= .bsl false sz len (ofV zv) (parts.toList.map (·.1))∧srcs (parts.toList.map (·.2))=some xs:=by
 obtain⟨dst,op,ty,pos,aft,gd⟩:=o
 have no:kk.isBsl=false→False:=fun h=>by rw[h]at hb;cases hb
 cases op with
 |buildSlice t len parts=>
  simp only[lite]at hlt
  split at hlt
  .rename_i e ht
   split at hlt
   .rename_i sz zv hs hz
    exact⟨t,len,parts,e,sz,zv,rfl,ht,hs,hz,(zc hlt).2,(zc hlt).1⟩
   .cases hlt
  .cases hlt
 |call c=>
  obtain⟨callee,args,ts⟩:=c
  exfalso
  apply no
  cases callee with
  |value fo=>
   cases fo with
   |global g=>simp only[lite]at hlt;rw[(zc hlt).2];rfl
   |func f=>rw[(zc hlt).2];rfl
   |tmp i=>rw[(zc hlt).2];rfl
   |const v=>rw[(zc hlt).2];rfl
  |invoke r m=>simp only[lite]at hlt;cases hlt
  |builtin b=>
   cases b<;>simp only[lite]at hlt
   case max=>
    repeat' split at hlt
    all_goals first
     |(rw[(zc hlt).2];rfl)
     |cases hlt
   case min=>
    repeat' split at hlt
    all_goals first
     |(rw[(zc hlt).2];rfl)
     |cases hlt
   case cap=>
    repeat' split at hlt
    all_goals first
     |(rw[(zc hlt).2];rfl)
     |cases hlt
   case clear=>
    repeat' split at hlt
    all_goals first
     |(obtain⟨_,_,hlt⟩:=bind_some hlt;obtain⟨_,_,hlt⟩:=bind_some hlt;rw[(zc hlt).2];rfl)
     |cases hlt
   case len=>
    repeat' split at hlt
    all_goals first
     |(rw[(zc hlt).2];rfl)
     |cases hlt
   case append=>
    repeat' split at hlt
    all_goals first
     |(rw[(zc hlt).2];rfl)
     |cases hlt
   all_goals cases hlt
 |binOp op t x y yt=>exact (no (ze4 hlt).1).elim
 |alloc t=>
  exfalso
  apply no
  simp only[lite]at hlt
  split at hlt
  .cases hlt;split<;>rfl
  .cases hlt
 |unOp op t x=>
  exfalso
  apply no
  cases op<;>simp only[lite]at hlt<;>first
   |(rw[(zc hlt).2];rfl)
   |cases hlt
 |makeFunc fn fs cs=>
  exfalso
  apply no
  cases fn<;>simp only[lite]at hlt<;>first
   |(rw[(zc hlt).2];rfl)
   |cases hlt
 |slice t x lo hi mx=>
  exfalso
  apply no
  cases mx<;>simp only[lite]at hlt
  .repeat' split at hlt
   all_goals first
    |(rw[(zc hlt).2];rfl)
    |cases hlt
  .unfold zbI at hlt
   repeat' split at hlt
   all_goals first
    |(rw[(zc hlt).2];rfl)
    |cases hlt
 |makeSlice t x y=>
  exfalso
  apply no
  simp only[lite]at hlt
  split at hlt
  .obtain⟨_,_,hlt⟩:=bind_some hlt
   obtain⟨_,_,hlt⟩:=bind_some hlt
   split at hlt
   .rw[(zc hlt).2];rfl
   .cases hlt
  .cases hlt
 |makeMap t r=>
  exfalso
  apply no
  cases r with
  |some r=>simp only[lite]at hlt;cases hlt
  |none=>simp only[lite]at hlt;rw[(zc hlt).2];rfl
 |insert t m k x=>
  exfalso
  apply no
  simp only[lite]at hlt
  split at hlt
  .obtain⟨_,_,hlt⟩:=bind_some hlt
   obtain⟨_,_,hlt⟩:=bind_some hlt
   rw[(zc hlt).2];rfl
  .cases hlt
 |mapUpdate t m k x=>
  exfalso
  apply no
  simp only[lite]at hlt
  split at hlt
  .obtain⟨_,_,hlt⟩:=bind_some hlt
   obtain⟨_,_,hlt⟩:=bind_some hlt
   rw[(zc hlt).2];rfl
  .cases hlt
 |lookup t m k ok=>
  exfalso
  apply no
  simp only[lite]at hlt
  split at hlt
  .obtain⟨_,_,hlt⟩:=bind_some hlt
   obtain⟨_,_,hlt⟩:=bind_some hlt
   obtain⟨_,_,hlt⟩:=bind_some hlt
   rw[(zc hlt).2];rfl
  .cases hlt
 |build t parts=>
  exfalso
  apply no
  simp only[lite]at hlt
  repeat' split at hlt
  all_goals first
   |(rw[(zc hlt).2];rfl)
   |(obtain⟨_,_,hlt⟩:=bind_some hlt;rw[(zc hlt).2];rfl)
   |cases hlt
 |next x b=>
  exfalso
  apply no
  cases b<;>simp only[lite]at hlt
  .cases hlt
  .rw[(zc hlt).2];rfl
 |_=>
  exfalso
  apply no
  simp only[lite]at hlt
  repeat' split at hlt
  all_goals first
   |(rw[(zc hlt).2];rfl)
   |cases hlt
def OpK.isMk:OpK→Bool| .mksl _ _=>true|_=>false
theorem zle {op:BinOp} {t:TypeId} {x y:Operand} {kk:OpK} {xs:List Src} (hl:zaB P op t x y=some (kk,xs)):kk.isMk=false:=by
 unfold zaB at hl
 simp only at hl
 split at hl
 .rw[(zc hl).2];rfl
 .rw[(zc hl).2];rfl
 .obtain⟨n,hn,hl⟩:=Option.bind_eq_some_iff.1 hl
  rw[(zc hl).2];rfl
 .obtain⟨n,hn,hl⟩:=Option.bind_eq_some_iff.1 hl
  split at hl
  .obtain⟨qs,hqs,hl⟩:=Option.bind_eq_some_iff.1 hl
   rw[(zc hl).2];rfl
  .cases hl
 .obtain⟨n,hn,hl⟩:=Option.bind_eq_some_iff.1 hl
  obtain⟨i,hi,hl⟩:=Option.bind_eq_some_iff.1 hl
  split at hl
  .obtain⟨q,hq,hl⟩:=Option.bind_eq_some_iff.1 hl
   rw[(zc hl).2];rfl
  .cases hl
 .obtain⟨n,hn,hl⟩:=Option.bind_eq_some_iff.1 hl
  split at hl
  .rw[(zc hl).2];rfl
  .cases hl
 .obtain⟨n,hn,hl⟩:=Option.bind_eq_some_iff.1 hl
  split at hl
  .rw[(zc hl).2];rfl
  .cases hl
 .obtain⟨n,hn,hl⟩:=Option.bind_eq_some_iff.1 hl
  split at hl
  .rw[(zc hl).2];rfl
  .cases hl
 .cases hl
theorem zn4 {o:Oper} {kk:OpK} {xs:List Src} (hlt:lite P o=some (kk,xs)) (hb:kk.isMk=true):
  ∃t x y e i zv,o.op= .makeSlice t x y∧P.underlying t=some (.slice e)∧P.info? e=some i∧i.zero=some zv∧i.bytes≤65536∧kk= .mksl i.size (ofV zv)∧srcs [x,y]=some xs:=by
 obtain⟨dst,op,ty,pos,aft,gd⟩:=o
 have no:kk.isMk=false→False:=fun h=>by rw[h]at hb;cases hb
 cases op with
 |buildSlice t len parts=>
  exfalso
  apply no
  simp only[lite]at hlt
  split at hlt
  .split at hlt
   .rw[(zc hlt).2];rfl
   .cases hlt
  .cases hlt
 |call c=>
  obtain⟨callee,args,ts⟩:=c
  exfalso
  apply no
  cases callee with
  |value fo=>
   cases fo with
   |global g=>simp only[lite]at hlt;rw[(zc hlt).2];rfl
   |func f=>rw[(zc hlt).2];rfl
   |tmp i=>rw[(zc hlt).2];rfl
   |const v=>rw[(zc hlt).2];rfl
  |invoke r m=>simp only[lite]at hlt;cases hlt
  |builtin b=>
   cases b<;>simp only[lite]at hlt
   case max=>
    repeat' split at hlt
    all_goals first
     |(rw[(zc hlt).2];rfl)
     |cases hlt
   case min=>
    repeat' split at hlt
    all_goals first
     |(rw[(zc hlt).2];rfl)
     |cases hlt
   case cap=>
    repeat' split at hlt
    all_goals first
     |(rw[(zc hlt).2];rfl)
     |cases hlt
   case clear=>
    repeat' split at hlt
    all_goals first
     |(obtain⟨_,_,hlt⟩:=bind_some hlt;obtain⟨_,_,hlt⟩:=bind_some hlt;rw[(zc hlt).2];rfl)
     |cases hlt
   case len=>
    repeat' split at hlt
    all_goals first
     |(rw[(zc hlt).2];rfl)
     |cases hlt
   case append=>
    repeat' split at hlt
    all_goals first
     |(rw[(zc hlt).2];rfl)
     |cases hlt
   all_goals cases hlt
 |binOp op t x y yt=>exact (no (zle hlt)).elim
 |alloc t=>
  exfalso
  apply no
  simp only[lite]at hlt
  split at hlt
  .cases hlt;split<;>rfl
  .cases hlt
 |unOp op t x=>
  exfalso
  apply no
  cases op<;>simp only[lite]at hlt<;>first
   |(rw[(zc hlt).2];rfl)
   |cases hlt
 |makeFunc fn fs cs=>
  exfalso
  apply no
  cases fn<;>simp only[lite]at hlt<;>first
   |(rw[(zc hlt).2];rfl)
   |cases hlt
 |slice t x lo hi mx=>
  exfalso
  apply no
  cases mx<;>simp only[lite]at hlt
  .repeat' split at hlt
   all_goals first
    |(rw[(zc hlt).2];rfl)
    |cases hlt
  .unfold zbI at hlt
   repeat' split at hlt
   all_goals first
    |(rw[(zc hlt).2];rfl)
    |cases hlt
 |makeSlice t x y=>
  simp only[lite]at hlt
  split at hlt
  .rename_i e ht
   obtain⟨i,hi,hlt⟩:=bind_some hlt
   obtain⟨zv,hz,hlt⟩:=bind_some hlt
   split at hlt
   .rename_i hb'
    exact⟨t,x,y,e,i,zv,rfl,ht,hi,hz,hb',(zc hlt).2,(zc hlt).1⟩
   .cases hlt
  .cases hlt
 |makeMap t r=>
  exfalso
  apply no
  cases r with
  |some r=>simp only[lite]at hlt;cases hlt
  |none=>simp only[lite]at hlt;rw[(zc hlt).2];rfl
 |insert t m k x=>
  exfalso
  apply no
  simp only[lite]at hlt
  split at hlt
  .obtain⟨_,_,hlt⟩:=bind_some hlt
   obtain⟨_,_,hlt⟩:=bind_some hlt
   rw[(zc hlt).2];rfl
  .cases hlt
 |mapUpdate t m k x=>
  exfalso
  apply no
  simp only[lite]at hlt
  split at hlt
  .obtain⟨_,_,hlt⟩:=bind_some hlt
   obtain⟨_,_,hlt⟩:=bind_some hlt
   rw[(zc hlt).2];rfl
  .cases hlt
 |lookup t m k ok=>
  exfalso
  apply no
  simp only[lite]at hlt
  split at hlt
  .obtain⟨_,_,hlt⟩:=bind_some hlt
   obtain⟨_,_,hlt⟩:=bind_some hlt
   obtain⟨_,_,hlt⟩:=bind_some hlt
   rw[(zc hlt).2];rfl
  .cases hlt
 |build t parts=>
  exfalso
  apply no
  simp only[lite]at hlt
  repeat' split at hlt
  all_goals first
   |(rw[(zc hlt).2];rfl)
   |(obtain⟨_,_,hlt⟩:=bind_some hlt;rw[(zc hlt).2];rfl)
   |cases hlt
 |next x b=>
  exfalso
  apply no
  cases b<;>simp only[lite]at hlt
  .cases hlt
  .rw[(zc hlt).2];rfl
 |_=>
  exfalso
  apply no
  simp only[lite]at hlt
  repeat' split at hlt
  all_goals first
   |(rw[(zc hlt).2];rfl)
   |cases hlt
def OpK.isLd:OpK→Bool| .load _ _ _=>true|_=>false
theorem zlf {op:BinOp} {t:TypeId} {x y:Operand} {kk:OpK} {xs:List Src} (hl:zaB P op t x y=some (kk,xs)):kk.isLd=false:=by
 unfold zaB at hl
 simp only at hl
 split at hl
 .rw[(zc hl).2];rfl
 .rw[(zc hl).2];rfl
 .obtain⟨n,hn,hl⟩:=Option.bind_eq_some_iff.1 hl
  rw[(zc hl).2];rfl
 .obtain⟨n,hn,hl⟩:=Option.bind_eq_some_iff.1 hl
  split at hl
  .obtain⟨qs,hqs,hl⟩:=Option.bind_eq_some_iff.1 hl
   rw[(zc hl).2];rfl
  .cases hl
 .obtain⟨n,hn,hl⟩:=Option.bind_eq_some_iff.1 hl
  obtain⟨i,hi,hl⟩:=Option.bind_eq_some_iff.1 hl
  split at hl
  .obtain⟨q,hq,hl⟩:=Option.bind_eq_some_iff.1 hl
   rw[(zc hl).2];rfl
  .cases hl
 .obtain⟨n,hn,hl⟩:=Option.bind_eq_some_iff.1 hl
  split at hl
  .rw[(zc hl).2];rfl
  .cases hl
 .obtain⟨n,hn,hl⟩:=Option.bind_eq_some_iff.1 hl
  split at hl
  .rw[(zc hl).2];rfl
  .cases hl
 .obtain⟨n,hn,hl⟩:=Option.bind_eq_some_iff.1 hl
  split at hl
  .rw[(zc hl).2];rfl
  .cases hl
 .cases hl
theorem zn6 {o:Oper} {kk:OpK} {xs:List Src} (hlt:lite P o=some (kk,xs)) (hb:kk.isLd=true):
  ∃t x g n,o.op= .load t x∧aggT P t=some g∧szT P t=some n∧kk= .load false g n∧srcs [x]=some xs:=by
 obtain⟨dst,op,ty,pos,aft,gd⟩:=o
 have no:kk.isLd=false→False:=fun h=>by rw[h]at hb;cases hb
 cases op with
 |buildSlice t len parts=>
  exfalso
  apply no
  simp only[lite]at hlt
  split at hlt
  .split at hlt
   .rw[(zc hlt).2];rfl
   .cases hlt
  .cases hlt
 |call c=>
  obtain⟨callee,args,ts⟩:=c
  exfalso
  apply no
  cases callee with
  |value fo=>
   cases fo with
   |global g=>simp only[lite]at hlt;rw[(zc hlt).2];rfl
   |func f=>rw[(zc hlt).2];rfl
   |tmp i=>rw[(zc hlt).2];rfl
   |const v=>rw[(zc hlt).2];rfl
  |invoke r m=>simp only[lite]at hlt;cases hlt
  |builtin b=>
   cases b<;>simp only[lite]at hlt
   case max=>
    repeat' split at hlt
    all_goals first
     |(rw[(zc hlt).2];rfl)
     |cases hlt
   case min=>
    repeat' split at hlt
    all_goals first
     |(rw[(zc hlt).2];rfl)
     |cases hlt
   case cap=>
    repeat' split at hlt
    all_goals first
     |(rw[(zc hlt).2];rfl)
     |cases hlt
   case clear=>
    repeat' split at hlt
    all_goals first
     |(obtain⟨_,_,hlt⟩:=bind_some hlt;obtain⟨_,_,hlt⟩:=bind_some hlt;rw[(zc hlt).2];rfl)
     |cases hlt
   case len=>
    repeat' split at hlt
    all_goals first
     |(rw[(zc hlt).2];rfl)
     |cases hlt
   case append=>
    repeat' split at hlt
    all_goals first
     |(rw[(zc hlt).2];rfl)
     |cases hlt
   all_goals cases hlt
 |binOp op t x y yt=>exact (no (zlf hlt)).elim
 |alloc t=>
  exfalso
  apply no
  simp only[lite]at hlt
  split at hlt
  .cases hlt;split<;>rfl
  .cases hlt
 |unOp op t x=>
  exfalso
  apply no
  cases op<;>simp only[lite]at hlt<;>first
   |(rw[(zc hlt).2];rfl)
   |cases hlt
 |makeFunc fn fs cs=>
  exfalso
  apply no
  cases fn<;>simp only[lite]at hlt<;>first
   |(rw[(zc hlt).2];rfl)
   |cases hlt
 |slice t x lo hi mx=>
  exfalso
  apply no
  cases mx<;>simp only[lite]at hlt
  .repeat' split at hlt
   all_goals first
    |(rw[(zc hlt).2];rfl)
    |cases hlt
  .unfold zbI at hlt
   repeat' split at hlt
   all_goals first
    |(rw[(zc hlt).2];rfl)
    |cases hlt
 |makeSlice t x y=>
  exfalso
  apply no
  simp only[lite]at hlt
  split at hlt
  .obtain⟨_,_,hlt⟩:=bind_some hlt
   obtain⟨_,_,hlt⟩:=bind_some hlt
   split at hlt
   .rw[(zc hlt).2];rfl
   .cases hlt
  .cases hlt
 |load t x=>
  simp only[lite]at hlt
  split at hlt
  .rename_i g n hg hn
   exact⟨t,x,g,n,rfl,hg,hn,(zc hlt).2,(zc hlt).1⟩
  .cases hlt
 |makeMap t r=>
  exfalso
  apply no
  cases r with
  |some r=>simp only[lite]at hlt;cases hlt
  |none=>simp only[lite]at hlt;rw[(zc hlt).2];rfl
 |insert t m k x=>
  exfalso
  apply no
  simp only[lite]at hlt
  split at hlt
  .obtain⟨_,_,hlt⟩:=bind_some hlt
   obtain⟨_,_,hlt⟩:=bind_some hlt
   rw[(zc hlt).2];rfl
  .cases hlt
 |mapUpdate t m k x=>
  exfalso
  apply no
  simp only[lite]at hlt
  split at hlt
  .obtain⟨_,_,hlt⟩:=bind_some hlt
   obtain⟨_,_,hlt⟩:=bind_some hlt
   rw[(zc hlt).2];rfl
  .cases hlt
 |lookup t m k ok=>
  exfalso
  apply no
  simp only[lite]at hlt
  split at hlt
  .obtain⟨_,_,hlt⟩:=bind_some hlt
   obtain⟨_,_,hlt⟩:=bind_some hlt
   obtain⟨_,_,hlt⟩:=bind_some hlt
   rw[(zc hlt).2];rfl
  .cases hlt
 |build t parts=>
  exfalso
  apply no
  simp only[lite]at hlt
  repeat' split at hlt
  all_goals first
   |(rw[(zc hlt).2];rfl)
   |(obtain⟨_,_,hlt⟩:=bind_some hlt;rw[(zc hlt).2];rfl)
   |cases hlt
 |next x b=>
  exfalso
  apply no
  cases b<;>simp only[lite]at hlt
  .cases hlt
  .rw[(zc hlt).2];rfl
 |_=>
  exfalso
  apply no
  simp only[lite]at hlt
  repeat' split at hlt
  all_goals first
   |(rw[(zc hlt).2];rfl)
   |cases hlt
def OpK.isSt:OpK→Bool| .store _=>true|_=>false
theorem zld {op:BinOp} {t:TypeId} {x y:Operand} {kk:OpK} {xs:List Src} (hl:zaB P op t x y=some (kk,xs)):kk.isSt=false:=by
 unfold zaB at hl
 simp only at hl
 split at hl
 .rw[(zc hl).2];rfl
 .rw[(zc hl).2];rfl
 .obtain⟨n,hn,hl⟩:=Option.bind_eq_some_iff.1 hl
  rw[(zc hl).2];rfl
 .obtain⟨n,hn,hl⟩:=Option.bind_eq_some_iff.1 hl
  split at hl
  .obtain⟨qs,hqs,hl⟩:=Option.bind_eq_some_iff.1 hl
   rw[(zc hl).2];rfl
  .cases hl
 .obtain⟨n,hn,hl⟩:=Option.bind_eq_some_iff.1 hl
  obtain⟨i,hi,hl⟩:=Option.bind_eq_some_iff.1 hl
  split at hl
  .obtain⟨q,hq,hl⟩:=Option.bind_eq_some_iff.1 hl
   rw[(zc hl).2];rfl
  .cases hl
 .obtain⟨n,hn,hl⟩:=Option.bind_eq_some_iff.1 hl
  split at hl
  .rw[(zc hl).2];rfl
  .cases hl
 .obtain⟨n,hn,hl⟩:=Option.bind_eq_some_iff.1 hl
  split at hl
  .rw[(zc hl).2];rfl
  .cases hl
 .obtain⟨n,hn,hl⟩:=Option.bind_eq_some_iff.1 hl
  split at hl
  .rw[(zc hl).2];rfl
  .cases hl
 .cases hl
theorem zn5 {o:Oper} {kk:OpK} {xs:List Src} (hlt:lite P o=some (kk,xs)) (hb:kk.isSt=true):
  ∃t x y n,o.op= .store t x y∧szT P t=some n∧kk= .store n∧srcs [x,y]=some xs:=by
 obtain⟨dst,op,ty,pos,aft,gd⟩:=o
 have no:kk.isSt=false→False:=fun h=>by rw[h]at hb;cases hb
 cases op with
 |buildSlice t len parts=>
  exfalso
  apply no
  simp only[lite]at hlt
  split at hlt
  .split at hlt
   .rw[(zc hlt).2];rfl
   .cases hlt
  .cases hlt
 |call c=>
  obtain⟨callee,args,ts⟩:=c
  exfalso
  apply no
  cases callee with
  |value fo=>
   cases fo with
   |global g=>simp only[lite]at hlt;rw[(zc hlt).2];rfl
   |func f=>rw[(zc hlt).2];rfl
   |tmp i=>rw[(zc hlt).2];rfl
   |const v=>rw[(zc hlt).2];rfl
  |invoke r m=>simp only[lite]at hlt;cases hlt
  |builtin b=>
   cases b<;>simp only[lite]at hlt
   case max=>
    repeat' split at hlt
    all_goals first
     |(rw[(zc hlt).2];rfl)
     |cases hlt
   case min=>
    repeat' split at hlt
    all_goals first
     |(rw[(zc hlt).2];rfl)
     |cases hlt
   case cap=>
    repeat' split at hlt
    all_goals first
     |(rw[(zc hlt).2];rfl)
     |cases hlt
   case clear=>
    repeat' split at hlt
    all_goals first
     |(obtain⟨_,_,hlt⟩:=bind_some hlt;obtain⟨_,_,hlt⟩:=bind_some hlt;rw[(zc hlt).2];rfl)
     |cases hlt
   case len=>
    repeat' split at hlt
    all_goals first
     |(rw[(zc hlt).2];rfl)
     |cases hlt
   case append=>
    repeat' split at hlt
    all_goals first
     |(rw[(zc hlt).2];rfl)
     |cases hlt
   all_goals cases hlt
 |binOp op t x y yt=>exact (no (zld hlt)).elim
 |alloc t=>
  exfalso
  apply no
  simp only[lite]at hlt
  split at hlt
  .cases hlt;split<;>rfl
  .cases hlt
 |unOp op t x=>
  exfalso
  apply no
  cases op<;>simp only[lite]at hlt<;>first
   |(rw[(zc hlt).2];rfl)
   |cases hlt
 |makeFunc fn fs cs=>
  exfalso
  apply no
  cases fn<;>simp only[lite]at hlt<;>first
   |(rw[(zc hlt).2];rfl)
   |cases hlt
 |slice t x lo hi mx=>
  exfalso
  apply no
  cases mx<;>simp only[lite]at hlt
  .repeat' split at hlt
   all_goals first
    |(rw[(zc hlt).2];rfl)
    |cases hlt
  .unfold zbI at hlt
   repeat' split at hlt
   all_goals first
    |(rw[(zc hlt).2];rfl)
    |cases hlt
 |makeSlice t x y=>
  exfalso
  apply no
  simp only[lite]at hlt
  split at hlt
  .obtain⟨_,_,hlt⟩:=bind_some hlt
   obtain⟨_,_,hlt⟩:=bind_some hlt
   split at hlt
   .rw[(zc hlt).2];rfl
   .cases hlt
  .cases hlt
 |store t x y=>
  simp only[lite]at hlt
  split at hlt
  .rename_i n hn
   exact⟨t,x,y,n,rfl,hn,(zc hlt).2,(zc hlt).1⟩
  .cases hlt
 |makeMap t r=>
  exfalso
  apply no
  cases r with
  |some r=>simp only[lite]at hlt;cases hlt
  |none=>simp only[lite]at hlt;rw[(zc hlt).2];rfl
 |insert t m k x=>
  exfalso
  apply no
  simp only[lite]at hlt
  split at hlt
  .obtain⟨_,_,hlt⟩:=bind_some hlt
   obtain⟨_,_,hlt⟩:=bind_some hlt
   rw[(zc hlt).2];rfl
  .cases hlt
 |mapUpdate t m k x=>
  exfalso
  apply no
  simp only[lite]at hlt
  split at hlt
  .obtain⟨_,_,hlt⟩:=bind_some hlt
   obtain⟨_,_,hlt⟩:=bind_some hlt
   rw[(zc hlt).2];rfl
  .cases hlt
 |lookup t m k ok=>
  exfalso
  apply no
  simp only[lite]at hlt
  split at hlt
  .obtain⟨_,_,hlt⟩:=bind_some hlt
   obtain⟨_,_,hlt⟩:=bind_some hlt
   obtain⟨_,_,hlt⟩:=bind_some hlt
   rw[(zc hlt).2];rfl
  .cases hlt
 |build t parts=>
  exfalso
  apply no
  simp only[lite]at hlt
  repeat' split at hlt
  all_goals first
   |(rw[(zc hlt).2];rfl)
   |(obtain⟨_,_,hlt⟩:=bind_some hlt;rw[(zc hlt).2];rfl)
   |cases hlt
 |next x b=>
  exfalso
  apply no
  cases b<;>simp only[lite]at hlt
  .cases hlt
  .rw[(zc hlt).2];rfl
 |_=>
  exfalso
  apply no
  simp only[lite]at hlt
  repeat' split at hlt
  all_goals first
   |(rw[(zc hlt).2];rfl)
   |cases hlt
def OpK.isAp:OpK→Bool| .app _=>true|_=>false
theorem zlh {op:BinOp} {t:TypeId} {x y:Operand} {kk:OpK} {xs:List Src} (hl:zaB P op t x y=some (kk,xs)):kk.isAp=false:=by
 unfold zaB at hl
 simp only at hl
 split at hl
 .rw[(zc hl).2];rfl
 .rw[(zc hl).2];rfl
 .obtain⟨n,hn,hl⟩:=Option.bind_eq_some_iff.1 hl
  rw[(zc hl).2];rfl
 .obtain⟨n,hn,hl⟩:=Option.bind_eq_some_iff.1 hl
  split at hl
  .obtain⟨qs,hqs,hl⟩:=Option.bind_eq_some_iff.1 hl
   rw[(zc hl).2];rfl
  .cases hl
 .obtain⟨n,hn,hl⟩:=Option.bind_eq_some_iff.1 hl
  obtain⟨i,hi,hl⟩:=Option.bind_eq_some_iff.1 hl
  split at hl
  .obtain⟨q,hq,hl⟩:=Option.bind_eq_some_iff.1 hl
   rw[(zc hl).2];rfl
  .cases hl
 .obtain⟨n,hn,hl⟩:=Option.bind_eq_some_iff.1 hl
  split at hl
  .rw[(zc hl).2];rfl
  .cases hl
 .obtain⟨n,hn,hl⟩:=Option.bind_eq_some_iff.1 hl
  split at hl
  .rw[(zc hl).2];rfl
  .cases hl
 .obtain⟨n,hn,hl⟩:=Option.bind_eq_some_iff.1 hl
  split at hl
  .rw[(zc hl).2];rfl
  .cases hl
 .cases hl
theorem zn8 {o:Oper} {kk:OpK} {xs:List Src} (hlt:lite P o=some (kk,xs)) (hb:kk.isAp=true):
  ∃t x y args e i zv,o.op= .call ⟨.builtin .append,args,#[t,t]⟩∧args=#[x,y]∧P.underlying t=some (.slice e)∧P.info? e=some i∧i.zero=some zv∧(zv.cells.size=i.size∧i.bytes≤65536)∧kk= .app i.size∧srcs [x,y]=some xs:=by
 obtain⟨dst,op,ty,pos,aft,gd⟩:=o
 have no:kk.isAp=false→False:=fun h=>by rw[h]at hb;cases hb
 cases op with
 |buildSlice t len parts=>
  exfalso
  apply no
  simp only[lite]at hlt
  split at hlt
  .split at hlt
   .rw[(zc hlt).2];rfl
   .cases hlt
  .cases hlt
 |call c=>
  obtain⟨callee,args,ts⟩:=c
  cases callee with
  |value fo=>
   exfalso
   apply no
   cases fo with
   |global g=>simp only[lite]at hlt;rw[(zc hlt).2];rfl
   |func f=>rw[(zc hlt).2];rfl
   |tmp i=>rw[(zc hlt).2];rfl
   |const v=>rw[(zc hlt).2];rfl
  |invoke r m=>simp only[lite]at hlt;cases hlt
  |builtin b=>
   cases b<;>simp only[lite]at hlt
   case append=>
    split at hlt
    .rename_i t t' x y hts hargs
     split at hlt
     .rename_i htt
      subst htt
      split at hlt
      .rename_i e ht
       split at hlt
       .rename_i i hi
        split at hlt
        .rename_i zv hz
         split at hlt
         .rename_i hc
          split at hlt
          .exact (no (by rw[(zc hlt).2];rfl)).elim
          .have e1:args=#[x,y]:=by apply Array.ext';simp[hargs]
           have e2:ts=#[t,t]:=by apply Array.ext';simp[hts]
           exact⟨t,x,y,args,e,i,zv,by rw[e2],e1,ht,hi,hz,hc,(zc hlt).2,(zc hlt).1⟩
         .cases hlt
        .cases hlt
       .cases hlt
      .cases hlt
     .exfalso
      apply no
      repeat' split at hlt
      all_goals first
       |(rw[(zc hlt).2];rfl)
       |cases hlt
    .cases hlt
   case clear=>
    exfalso
    apply no
    repeat' split at hlt
    all_goals first
     |(obtain⟨_,_,hlt⟩:=bind_some hlt;obtain⟨_,_,hlt⟩:=bind_some hlt;rw[(zc hlt).2];rfl)
     |cases hlt
   case max=>
    exfalso
    apply no
    repeat' split at hlt
    all_goals first
     |(rw[(zc hlt).2];rfl)
     |cases hlt
   case min=>
    exfalso
    apply no
    repeat' split at hlt
    all_goals first
     |(rw[(zc hlt).2];rfl)
     |cases hlt
   case cap=>
    exfalso
    apply no
    repeat' split at hlt
    all_goals first
     |(rw[(zc hlt).2];rfl)
     |cases hlt
   case len=>
    exfalso
    apply no
    repeat' split at hlt
    all_goals first
     |(rw[(zc hlt).2];rfl)
     |cases hlt
   all_goals cases hlt
 |binOp op t x y yt=>exact (no (zlh hlt)).elim
 |alloc t=>
  exfalso
  apply no
  simp only[lite]at hlt
  split at hlt
  .cases hlt;split<;>rfl
  .cases hlt
 |unOp op t x=>
  exfalso
  apply no
  cases op<;>simp only[lite]at hlt<;>first
   |(rw[(zc hlt).2];rfl)
   |cases hlt
 |makeFunc fn fs cs=>
  exfalso
  apply no
  cases fn<;>simp only[lite]at hlt<;>first
   |(rw[(zc hlt).2];rfl)
   |cases hlt
 |slice t x lo hi mx=>
  exfalso
  apply no
  cases mx<;>simp only[lite]at hlt
  .repeat' split at hlt
   all_goals first
    |(rw[(zc hlt).2];rfl)
    |cases hlt
  .unfold zbI at hlt
   repeat' split at hlt
   all_goals first
    |(rw[(zc hlt).2];rfl)
    |cases hlt
 |makeSlice t x y=>
  exfalso
  apply no
  simp only[lite]at hlt
  split at hlt
  .obtain⟨_,_,hlt⟩:=bind_some hlt
   obtain⟨_,_,hlt⟩:=bind_some hlt
   split at hlt
   .rw[(zc hlt).2];rfl
   .cases hlt
  .cases hlt
 |store t x y=>
  simp only[lite]at hlt
  split at hlt
  .exact (no (by rw[(zc hlt).2];rfl)).elim
  .cases hlt
 |makeMap t r=>
  exfalso
  apply no
  cases r with
  |some r=>simp only[lite]at hlt;cases hlt
  |none=>simp only[lite]at hlt;rw[(zc hlt).2];rfl
 |insert t m k x=>
  exfalso
  apply no
  simp only[lite]at hlt
  split at hlt
  .obtain⟨_,_,hlt⟩:=bind_some hlt
   obtain⟨_,_,hlt⟩:=bind_some hlt
   rw[(zc hlt).2];rfl
  .cases hlt
 |mapUpdate t m k x=>
  exfalso
  apply no
  simp only[lite]at hlt
  split at hlt
  .obtain⟨_,_,hlt⟩:=bind_some hlt
   obtain⟨_,_,hlt⟩:=bind_some hlt
   rw[(zc hlt).2];rfl
  .cases hlt
 |lookup t m k ok=>
  exfalso
  apply no
  simp only[lite]at hlt
  split at hlt
  .obtain⟨_,_,hlt⟩:=bind_some hlt
   obtain⟨_,_,hlt⟩:=bind_some hlt
   obtain⟨_,_,hlt⟩:=bind_some hlt
   rw[(zc hlt).2];rfl
  .cases hlt
 |build t parts=>
  exfalso
  apply no
  simp only[lite]at hlt
  repeat' split at hlt
  all_goals first
   |(rw[(zc hlt).2];rfl)
   |(obtain⟨_,_,hlt⟩:=bind_some hlt;rw[(zc hlt).2];rfl)
   |cases hlt
 |next x b=>
  exfalso
  apply no
  cases b<;>simp only[lite]at hlt
  .cases hlt
  .rw[(zc hlt).2];rfl
 |_=>
  exfalso
  apply no
  simp only[lite]at hlt
  repeat' split at hlt
  all_goals first
   |(rw[(zc hlt).2];rfl)
   |cases hlt
def OpK.isBx:OpK→Bool| .box _=>true|_=>false
theorem zlg {op:BinOp} {t:TypeId} {x y:Operand} {kk:OpK} {xs:List Src} (hl:zaB P op t x y=some (kk,xs)):kk.isBx=false:=by
 unfold zaB at hl
 simp only at hl
 split at hl
 .rw[(zc hl).2];rfl
 .rw[(zc hl).2];rfl
 .obtain⟨n,hn,hl⟩:=Option.bind_eq_some_iff.1 hl
  rw[(zc hl).2];rfl
 .obtain⟨n,hn,hl⟩:=Option.bind_eq_some_iff.1 hl
  split at hl
  .obtain⟨qs,hqs,hl⟩:=Option.bind_eq_some_iff.1 hl
   rw[(zc hl).2];rfl
  .cases hl
 .obtain⟨n,hn,hl⟩:=Option.bind_eq_some_iff.1 hl
  obtain⟨i,hi,hl⟩:=Option.bind_eq_some_iff.1 hl
  split at hl
  .obtain⟨q,hq,hl⟩:=Option.bind_eq_some_iff.1 hl
   rw[(zc hl).2];rfl
  .cases hl
 .obtain⟨n,hn,hl⟩:=Option.bind_eq_some_iff.1 hl
  split at hl
  .rw[(zc hl).2];rfl
  .cases hl
 .obtain⟨n,hn,hl⟩:=Option.bind_eq_some_iff.1 hl
  split at hl
  .rw[(zc hl).2];rfl
  .cases hl
 .obtain⟨n,hn,hl⟩:=Option.bind_eq_some_iff.1 hl
  split at hl
  .rw[(zc hl).2];rfl
  .cases hl
 .cases hl
theorem zn7 {o:Oper} {kk:OpK} {xs:List Src} (hlt:lite P o=some (kk,xs)) (hb:kk.isBx=true):
  (∃t sz zv,o.op= .alloc t∧zcx P t=some zv∧kk= .box sz∧xs=[.c (ofV zv)])∨∃t x sz,o.op= .box t x∧kk= .box sz∧srcs [x]=some xs:=by
 obtain⟨dst,op,ty,pos,aft,gd⟩:=o
 have no:kk.isBx=false→False:=fun h=>by rw[h]at hb;cases hb
 cases op with
 |buildSlice t len parts=>
  exfalso
  apply no
  simp only[lite]at hlt
  split at hlt
  .split at hlt
   .rw[(zc hlt).2];rfl
   .cases hlt
  .cases hlt
 |call c=>
  obtain⟨callee,args,ts⟩:=c
  exfalso
  apply no
  cases callee with
  |value fo=>
   cases fo with
   |global g=>simp only[lite]at hlt;rw[(zc hlt).2];rfl
   |func f=>rw[(zc hlt).2];rfl
   |tmp i=>rw[(zc hlt).2];rfl
   |const v=>rw[(zc hlt).2];rfl
  |invoke r m=>simp only[lite]at hlt;cases hlt
  |builtin b=>
   cases b<;>simp only[lite]at hlt
   case max=>
    repeat' split at hlt
    all_goals first
     |(rw[(zc hlt).2];rfl)
     |cases hlt
   case min=>
    repeat' split at hlt
    all_goals first
     |(rw[(zc hlt).2];rfl)
     |cases hlt
   case cap=>
    repeat' split at hlt
    all_goals first
     |(rw[(zc hlt).2];rfl)
     |cases hlt
   case clear=>
    repeat' split at hlt
    all_goals first
     |(obtain⟨_,_,hlt⟩:=bind_some hlt;obtain⟨_,_,hlt⟩:=bind_some hlt;rw[(zc hlt).2];rfl)
     |cases hlt
   case len=>
    repeat' split at hlt
    all_goals first
     |(rw[(zc hlt).2];rfl)
     |cases hlt
   case append=>
    repeat' split at hlt
    all_goals first
     |(rw[(zc hlt).2];rfl)
     |cases hlt
   all_goals cases hlt
 |binOp op t x y yt=>exact (no (zlg hlt)).elim
 |alloc t=>
  simp only[lite]at hlt
  split at hlt
  .rename_i sz zv hs hz
   simp only[Option.some.injEq,Prod.mk.injEq]at hlt
   obtain⟨h1,h2⟩:=hlt
   split at h1
   .exact (no (by rw[←h1];rfl)).elim
   .exact .inl ⟨t,sz,zv,rfl,hz,h1.symm,h2.symm⟩
  .cases hlt
 |unOp op t x=>
  exfalso
  apply no
  cases op<;>simp only[lite]at hlt<;>first
   |(rw[(zc hlt).2];rfl)
   |cases hlt
 |makeFunc fn fs cs=>
  exfalso
  apply no
  cases fn<;>simp only[lite]at hlt<;>first
   |(rw[(zc hlt).2];rfl)
   |cases hlt
 |slice t x lo hi mx=>
  exfalso
  apply no
  cases mx<;>simp only[lite]at hlt
  .repeat' split at hlt
   all_goals first
    |(rw[(zc hlt).2];rfl)
    |cases hlt
  .unfold zbI at hlt
   repeat' split at hlt
   all_goals first
    |(rw[(zc hlt).2];rfl)
    |cases hlt
 |makeSlice t x y=>
  exfalso
  apply no
  simp only[lite]at hlt
  split at hlt
  .obtain⟨_,_,hlt⟩:=bind_some hlt
   obtain⟨_,_,hlt⟩:=bind_some hlt
   split at hlt
   .rw[(zc hlt).2];rfl
   .cases hlt
  .cases hlt
 |box t x=>
  simp only[lite]at hlt
  split at hlt
  .rename_i sz hs
   have h2:=(zc hlt).2
   by_cases hbx:bxT.contains t=true
   .exact (no (by rw[h2,if_pos hbx];rfl)).elim
   .exact .inr ⟨t,x,sz,rfl,by rw[h2,if_neg hbx],(zc hlt).1⟩
  .cases hlt
 |makeMap t r=>
  exfalso
  apply no
  cases r with
  |some r=>simp only[lite]at hlt;cases hlt
  |none=>simp only[lite]at hlt;rw[(zc hlt).2];rfl
 |insert t m k x=>
  exfalso
  apply no
  simp only[lite]at hlt
  split at hlt
  .obtain⟨_,_,hlt⟩:=bind_some hlt
   obtain⟨_,_,hlt⟩:=bind_some hlt
   rw[(zc hlt).2];rfl
  .cases hlt
 |mapUpdate t m k x=>
  exfalso
  apply no
  simp only[lite]at hlt
  split at hlt
  .obtain⟨_,_,hlt⟩:=bind_some hlt
   obtain⟨_,_,hlt⟩:=bind_some hlt
   rw[(zc hlt).2];rfl
  .cases hlt
 |lookup t m k ok=>
  exfalso
  apply no
  simp only[lite]at hlt
  split at hlt
  .obtain⟨_,_,hlt⟩:=bind_some hlt
   obtain⟨_,_,hlt⟩:=bind_some hlt
   obtain⟨_,_,hlt⟩:=bind_some hlt
   rw[(zc hlt).2];rfl
  .cases hlt
 |build t parts=>
  exfalso
  apply no
  simp only[lite]at hlt
  repeat' split at hlt
  all_goals first
   |(rw[(zc hlt).2];rfl)
   |(obtain⟨_,_,hlt⟩:=bind_some hlt;rw[(zc hlt).2];rfl)
   |cases hlt
 |next x b=>
  exfalso
  apply no
  cases b<;>simp only[lite]at hlt
  .cases hlt
  .rw[(zc hlt).2];rfl
 |_=>
  exfalso
  apply no
  simp only[lite]at hlt
  repeat' split at hlt
  all_goals first
   |(rw[(zc hlt).2];rfl)
   |cases hlt
theorem zcl {k:OpK} {vs:List AV} {v:AV} (hq:k.quiet=true) (h1:qx H k vs=v) (h2:v≠.bad):zao H k vs=some (v,H):=by
 unfold zao
 rw[if_pos hq,h1]
 unfold okO
 split
 .exact absurd rfl h2
 .rfl
theorem zcE {E:Nat→AV}:∀{xs:List Src} {vs:List AV} (n:Nat),vals E xs=some vs→vals E (xs.take n)=some (vs.take n)
 | [],vs,n,h=>by simp[vals]at h;subst h;simp[vals]
 |x::xs,vs,n,h=>by
  simp only[vals]at h
  split at h
  .rename_i v vs' h1 h2
   cases h
   cases n with
   |zero=>rfl
   |succ n=>simp only[List.take_succ_cons,vals,h1,zcE n h2]
  .cases h
theorem zi0 {k:OpK} {vs:List AV} {r:AV×Heap} (hsa:za9 k=none) (hk:k.isCall=false) (hmk:∀t sz z,k≠.mkslH t sz z) (hld:∀g n,k≠.loadB g n) (hst:∀n,k≠.storeB n) (hbh:∀t sz,k≠.boxH t sz) (hah:∀t sz,k≠.appH t sz) (hb:∀sz len z ps,k≠.bsl true sz len z ps) (hx:zao H k vs=some r):zao H k.erase vs=some r:=by
 have key:∀(imm:Bool) (x:AV) (y z:AV),(if imm&& !x.imm then AV.bad else y)=z→z≠.bad→y=z:=by
  intro imm x y z h hz
  split at h
  .exact absurd h.symm hz
  .exact h
 cases k with
 |load imm g n=>
  obtain⟨v,H'⟩:=r
  obtain⟨e1,e2,rfl⟩:=zu rfl hx
  have:qx H' (.load false g n) vs=v:=by
   match vs,e1 with
   | [x],e1=>simp only[qx,Bool.false_and,Bool.false_eq_true,if_false]at e1⊢;exact key _ _ _ _ e1 e2
   | [],e1=>exact e1
   |_::_::_,e1=>exact e1
  show zao H' (.load false g n) vs=some (v,H')
  exact zcl rfl this e2
 |idxa imm sz=>
  obtain⟨v,H'⟩:=r
  obtain⟨e1,e2,rfl⟩:=zu rfl hx
  have:qx H' (.idxa false sz) vs=v:=by
   match vs,e1 with
   | [x,y],e1=>simp only[qx,Bool.false_and,Bool.false_eq_true,if_false]at e1⊢;exact key _ _ _ _ e1 e2
   | [],e1=>exact e1
   | [_],e1=>exact e1
   |_::_::_::_,e1=>exact e1
  show zao H' (.idxa false sz) vs=some (v,H')
  exact zcl rfl this e2
 |slc imm str sz lo hi=>
  obtain⟨v,H'⟩:=r
  obtain⟨e1,e2,rfl⟩:=zu rfl hx
  have:qx H' (.slc false str sz lo hi) vs=v:=by
   match vs,e1 with
   | [],e1=>exact e1
   |x::bs,e1=>simp only[qx,Bool.false_and,Bool.false_eq_true,if_false]at e1⊢;exact key _ _ _ _ e1 e2
  show zao H' (.slc false str sz lo hi) vs=some (v,H')
  exact zcl rfl this e2
 |bsl imm sz len z ps=>
  cases imm with
  |true=>exact absurd rfl (hb _ _ _ _)
  |false=>exact hx
 |storeA n=>cases hsa
 |appA n=>cases hsa
 |pcall f=>cases hk
 |pubcall f=>cases hk
 |fcall f=>cases hk
 |mkslH t sz z=>exact absurd rfl (hmk _ _ _)
 |loadB g n=>exact absurd rfl (hld _ _)
 |storeB n=>exact absurd rfl (hst _)
 |boxH t sz=>exact absurd rfl (hbh _ _)
 |appH t sz=>exact absurd rfl (hah _ _)
 |_=>exact hx
theorem zjO {o:Oper} {k:OpK} {xs:List Src} {vs:List AV} {v:AV} {H':Heap} (h:WR C K w M R H) (he:∀i,VR w M R (E i) (a.tmps.getD i undef)) (hsa:za9 k=none) (hl:lite P o=some (k.erase,xs)) (hk:k.isCall=false) (hv:vals E xs=some vs) (hx:zao H k vs=some (v,H')):
  Done C K P w M R v H' (execOp a.eval o):=by
 by_cases hb:∃sz len z ps,k= .bsl true sz len z ps
 .obtain⟨sz,len,z,ps,rfl⟩:=hb
  obtain⟨t,len',parts,e,sz',zv,q1,q2,q3,q4,q5,q6⟩:=zmd hl rfl
  simp only[OpK.erase,OpK.bsl.injEq]at q5
  obtain⟨_,rfl,rfl,rfl,rfl⟩:=q5
  have hvs:=zf h.glob he q6 hv
  have:=zqM h hvs (zP rfl hx) q2 q3 q4 (by simp)
  rw[zdE]at this
  have hh:Done C K P w M R v H' (do pure (.value (←Instr.buildSlice t len (parts.map fun (i,x)=>(i,a.eval x))))):= .eff this
  unfold execOp
  rw[q1]
  exact hh
 .have hb':∀sz len z ps,k≠.bsl true sz len z ps:=fun sz len z ps e=>hb ⟨sz,len,z,ps,e⟩
  by_cases hm:∃t sz z,k= .mkslH t sz z
  .obtain⟨t,sz,z,rfl⟩:=hm
   obtain⟨t',x,y,e,i,zv,q1,q2,q3,q4,q5,q6,q7⟩:=zn4 hl rfl
   simp only[OpK.erase,OpK.mksl.injEq]at q6
   obtain⟨rfl,rfl⟩:=q6
   obtain⟨p,q,rfl,hp,hq⟩:=(zf h.glob he q7 hv).two
   have hh:Done C K P w M R v H' (do pure (.value (←Instr.makeSlice t' (a.eval x) (a.eval y)))):= .eff (zph h hp hq (zP rfl hx) q2 q3 q4 rfl q5)
   unfold execOp
   rw[q1]
   exact hh
  .by_cases hld:∃g n,k= .loadB g n
   .obtain⟨g,n,rfl⟩:=hld
    obtain⟨t,x,g',n',q1,q2,q3,q4,q5⟩:=zn6 hl rfl
    simp only[OpK.erase,OpK.load.injEq,true_and]at q4
    obtain⟨rfl,rfl⟩:=q4
    obtain⟨p,rfl,hp⟩:=(zf h.glob he q5 hv).one
    obtain⟨e1,e2,rfl⟩:=zu rfl hx
    have hh:Done C K P w M R v H' (do pure (.value (←Instr.loadAt t (a.eval x)))):= .quiet h (znQ h.heap hp e1 e2 q2 q3)
    unfold execOp
    rw[q1]
    exact hh
   .by_cases hst:∃n,k= .storeB n
    .obtain⟨n,rfl⟩:=hst
     obtain⟨t,x,y,n',q1,q2,q3,q4⟩:=zn5 hl rfl
     simp only[OpK.erase,OpK.store.injEq]at q3
     subst q3
     obtain⟨p,q,rfl,hp,hq⟩:=(zf h.glob he q4 hv).two
     have hh:Done C K P w M R v H' (do Instr.storeAt t (a.eval x) (a.eval y);pure .skip):= .effU (zmO h hp hq (zP rfl hx) q2)
     unfold execOp
     rw[q1]
     exact hh
    .by_cases hbh:∃t sz,k= .boxH t sz
     .obtain⟨tg,sz,rfl⟩:=hbh
      rcases zn7 hl rfl with⟨t,sz',zv,q1,q2,q3,q4⟩|⟨t,x,sz',q1,q3,q4⟩
      .simp only[OpK.erase,OpK.box.injEq]at q3
       subst q3;subst q4
       simp only[vals,evS]at hv
       split at hv
       .rename_i v1 vs1 h1 h2
        cases h2;cases hv
        obtain⟨e0,_⟩:=zar h1
        subst e0
        obtain⟨r,w',M',R',r1,r2,r3,r4⟩:=znx (t:=t) h (VR.ofV w M R zv) (zP rfl hx)
        have hrun:(Instr.alloc t true (.tuple #[])).run P w= .ok r w':=by
         unfold Instr.alloc
         rw[zh (zap q2 w)]
         exact r1
        have hh:Done C K P w M R v H' (do pure (Next.value (←Instr.alloc t true (.tuple #[])))):=⟨.value r,r,w',M',R',by rw[zh hrun];rfl,.inl rfl,r2,r3,r4⟩
        unfold execOp
        rw[q1]
        exact hh
       .cases hv
      .simp only[OpK.erase,OpK.box.injEq]at q3
       subst q3
       obtain⟨p,rfl,hp⟩:=(zf h.glob he q4 hv).one
       have hh:Done C K P w M R v H' (do pure (.value (←Instr.box t (a.eval x)))):= .eff (znx h hp (zP rfl hx))
       unfold execOp
       rw[q1]
       exact hh
     .by_cases hah:∃t sz,k= .appH t sz
      .obtain⟨tg,sz,rfl⟩:=hah
       obtain⟨t,x,y,args,e,i,zv,q1,q2,q3,q4,q5,q6,q7,q8⟩:=zn8 hl rfl
       simp only[OpK.erase,OpK.app.injEq]at q7
       subst q7
       obtain⟨p,q,rfl,hp,hq⟩:=(zf h.glob he q8 hv).two
       have e1:args.map a.eval=#[a.eval x,a.eval y]:=by subst q2;simp
       have:=zqQ h (ty:=o.type) ⟨q3,q4,rfl,q5,q6.1,q6.2⟩ hp hq (zP rfl hx)
       rw[←e1]at this
       have hh:Done C K P w M R v H' (do pure (.value (←Builtin.append_ #[t,t] o.type (args.map a.eval)))):= .eff this
       unfold execOp
       rw[q1]
       exact hh
      .exact zhY h he hl (by cases k<;>first|rfl|exact hk|cases hsa) hv (zi0 hsa hk (fun t sz z e=>hm ⟨t,sz,z,e⟩) (fun g n e=>hld ⟨g,n,e⟩) (fun n e=>hst ⟨n,e⟩) (fun t sz e=>hbh ⟨t,sz,e⟩) (fun t sz e=>hah ⟨t,sz,e⟩) hb' hx)
end sound
end Go.Proofs.YtgamobngbenehaaGreatDoor
