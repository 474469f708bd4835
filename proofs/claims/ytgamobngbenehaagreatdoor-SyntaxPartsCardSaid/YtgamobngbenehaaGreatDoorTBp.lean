/-
  What the statements of this seat share: the world at the call, and its package variables (conditions: none).
-/
import Derived.Test.YtgamobngbenehaaGreatDoorRows
import Derived.Test.YtgamobngbenehaaGreatDoorCards
import Derived.Test.YtgamobngbenehaaGreatDoorTie
import Derived.Shelf.Vars
import Derived.LaidMore
import Derived.LaidLaws
import Derived.Handed
import Derived.MakeChecks
import Derived.Stop.LaidErr
import Derived.Lib.LaidTab
import Derived.ProofKit
import Derived.Stop.Joined
import Derived.SevenTiedAt
import Derived.Test.YtgamobngbenehaaGreatDoorEXp
import Derived.Test.YtgamobngbenehaaGreatDoorPrep
namespace Go.Proofs.YtgamobngbenehaaGreatDoor
open Go Go.RowKit
set_option linter.unusedVariables false
set_option linter.unusedSimpArgs false
set_option maxRecDepth 100000
theorem own:ownKnob Tryz.prog.godebug=none:=by kernel_rfl
theorem zoc:laidOutB Tryz.prog=true:=by kernel_rfl
theorem mixed:Tryz.prog.follows .mixedOrders=true:=by kernel_rfl
abbrev zj8:List (String×DataW Unit):=[("math/bits.deBruijn32tab",Rows.laid_math_bits_deBruijn32tab),("math/bits.deBruijn64tab",Rows.laid_math_bits_deBruijn64tab),("internal/strconv.uint64pow10",Rows.laid_internal_strconv_uint64pow10)]
theorem zpP:zgY Tryz.prog:=by
 intro e g l h
 unfold recL recs at h
 by_cases h1:e=61
 .subst h1
  simp at h
  obtain⟨rfl,rfl⟩:=h
  exact⟨⟨40,by kernel_rfl⟩,by kernel_rfl,by simp,fun h=>by cases h⟩
 by_cases h2:e=57
 .subst h2
  simp at h
  obtain⟨rfl,rfl⟩:=h
  exact⟨⟨40,by kernel_rfl⟩,by kernel_rfl,by simp,fun h=>by cases h⟩
 by_cases h3:e=63
 .subst h3
  simp at h
  obtain⟨rfl,rfl⟩:=h
  exact⟨⟨40,by kernel_rfl⟩,by kernel_rfl,by simp,fun h=>by cases h⟩
 .have e1:(61==e)=false:=beq_false_of_ne (fun q=>h1 q.symm)
  have e2:(57==e)=false:=beq_false_of_ne (fun q=>h2 q.symm)
  have e3:(63==e)=false:=beq_false_of_ne (fun q=>h3 q.symm)
  simp[List.find?,e1,e2,e3]at h
theorem znI {W:World} (h:W.ShapedOpen Tryz.prog) (hl:laidMetH Tryz.prog zj8 W):GOk W (fun _ _=>False) zag:=by
 refine⟨fun p hp=>?_,fun p hp=>?_⟩
 rotate_left
 .rw[MakeChecks.laidMetH_plain _ _ _ (by kernel_rfl)]at hl
  have h1:=hl.tail.tail
  rw[show (Rows.laid_internal_strconv_uint64pow10:DataW Unit)=Lib.tabData .u64 Lib.pow10Tab by kernel_rfl]at h1
  have h2:=Lib.tabIs_of_head (g:=1) (t:=242) (e:=197) (n:=20) (by kernel_rfl) (by kernel_rfl) (by kernel_rfl) (by kernel_rfl) (by kernel_rfl) (by kernel_rfl) h1
  unfold Lib.TabIs World.var? at h2
  rw[show Tryz.prog.globalNamed "internal/strconv.uint64pow10"=some 1 by kernel_rfl]at h2
  simp only[glbO,List.mem_cons,List.not_mem_nil,or_false]at hp
  subst hp
  simp only[Option.bind_some]at h2
  split at h2
  .rename_i cs t f hc
   cases h2
   exact⟨(Array.getElem?_eq_some_iff.1 hc).1,t,f,hc⟩
  .cases h2
 obtain⟨m,hm⟩:=cell_of_shapedOpen_int (P:=Tryz.prog) (g:=0) (t:=3) (zero:=#[.int .i64 0]) (k:= .i64) h (of_decide_eq_true (by kernel_rfl)) (by kernel_rfl) rfl (by kernel_rfl) (by kernel_rfl) (by kernel_rfl)
 simp[zoF,glb]at hp
 subst hp
 refine VR.eptr zag [.unk .i64] 0 0 (fun _=> .int .i64 m) (fun j c hj=>?_) (fun j c hj=>?_)
 .have:j=0:=by
   have:=(gEs.1 hj).1
   simp at this
   omega
  subst this
  exact⟨hm,fun h=>h⟩
 .have:c= .unk .i64:=by
   have:=List.mem_of_getElem? hj
   simpa using this
  subst this
  exact .unk _ _ _
theorem zmR (os:Os) (args:Array Value):laidMetH Tryz.prog zj8 ((World.doorLaid Tryz.prog 400 os).forCall (fun _ _=>0) ⟨#[],args,[]⟩).memory:=
 laidMetH_of_parts3 (fuel:=8) (laidMet_of_run' 8 (by kernel_rfl) (by kernel_rfl)) (by kernel_rfl) (by kernel_rfl)
theorem zj7 {H:Type} {enc:TypeId×Value→H} {C:Checked} {os:Os} {f:FuncId} {fn:Func} {s:ChangeSpec} {conds:List PathCond} {apart fresh handsOn again:Bool} {X:World→Array Value→Prop}
  (hX:∀(w w':World) (args:Array Value),w.heap=w'.heap→X w args→X w' args)
  (own:ownKnob C.prog.godebug=none) (started:os.Started) (noInit:C.prog.inits.idxOf? f=none) (hfn:C.prog.funcs[f]?=some fn)
  (witness:∃(w:World) (tape:Tape) (i:Input),w.os=os∧(w.forCall tape i).Shaped C.prog∧i.vars=[]∧Input.okWide C.prog (w.forCall tape i) .any w.heap.size f i∧
   ((s.pre enc C.prog fn conds apart (w.forCall tape i).memory i.args∧X (w.forCall tape i).memory i.args)∧sizedMet enc C.prog fn (OpenSpec.ofChange s) apart (w.forCall tape i).memory i.args)∧({}:Assume).holds C.prog (lone (Frame.enter C.prog f i.args .normal) [] (w.forCall tape i)))
  (contract:∀(W:World) (base:Nat) (args:Array Value) (ds gs:List (DataW H)) (before:List MemPlace),
   (∀(j:Nat) t v,fn.params[j]?=some t→args[j]?=some v→Value.okWide C.prog W .any base t v)→
   DataW.Whole enc C.prog fn.params.toList s.vars apart W args.toList ds gs before→
   W.ShapedOpen C.prog→X W args→
   Calls C.prog f args W fun e W'=>∃v,e= .returned v∧s.post enc C.prog fn apart fresh handsOn again W args v W'):
  ReturnsInHanded {} C os f .any (fun w args=>(s.pre enc C.prog fn conds apart w args∧X w args)∧sizedMet enc C.prog fn (OpenSpec.ofChange s) apart w args) (s.post enc C.prog fn apart fresh handsOn again):=by
 refine returnsInHanded_of_calls own started noInit witness ?_
 intro w tape i _ hsh _ hok hpre hholds
 obtain⟨_,_,_,fn',hfn',_,_,_,_,hval⟩:=hok
 have e:fn'=fn:=Option.some.inj (hfn'.symm.trans hfn)
 subst e
 obtain⟨⟨⟨ds,gs,before,hw,hc⟩,hx⟩,hz⟩:=hpre
 have hw':=DataW.Whole.of_heap (w':=w.forCall tape i) (by rfl) hw
 refine (contract (w.forCall tape i) w.heap.size i.args ds gs before hval hw' hsh (hX (w.forCall tape i).memory (w.forCall tape i) _ rfl hx)).mono fun e W' ⟨v,he,hp⟩=>?_
 subst he
 exact ChangeSpec.post_blind hp
end Go.Proofs.YtgamobngbenehaaGreatDoor
