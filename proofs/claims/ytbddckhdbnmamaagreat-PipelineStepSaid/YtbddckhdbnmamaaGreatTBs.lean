/-
  What the statements of this seat share (conditions: none).
-/
import Derived.Test.YtbddckhdbnmamaaGreatRows
import Derived.Test.YtbddckhdbnmamaaGreatEXs
import Derived.Test.YtbddckhdbnmamaaGreatPres
namespace Go.Proofs.YtbddckhdbnmamaaGreat
open Go Go.RowKit
set_option linter.unusedVariables false
set_option linter.unusedSimpArgs false
set_option maxRecDepth 100000
theorem zAT:∀f g,ext f=some g→zmu Tryz.prog f g:=fun f g h=>by cases h
theorem zxo:∀f g,extM f=some g→zeH Tryz.prog f g:=by
 intro f g h
 unfold extM at h
 split at h
 .rename_i e;subst e;cases h
  exact zwz (enters_of Tryz.func212 (by kernel_rfl) rfl)
 .split at h
  .rename_i e;subst e;cases h
   exact zxG (enters_of Tryz.func213 (by kernel_rfl) rfl)
  .split at h
   .rename_i e;subst e;cases h
    exact ztM (enters_of Tryz.func106 (by kernel_rfl) rfl)
   .split at h
    .rename_i e;subst e;cases h
     exact ztL (enters_of Tryz.func228 (by kernel_rfl) rfl)
    .cases h
theorem own:ownKnob Tryz.prog.godebug=none:=by kernel_rfl
theorem zum:laidOutB Tryz.prog=true:=by kernel_rfl
theorem mixed:Tryz.prog.follows .mixedOrders=true:=by kernel_rfl
theorem zwD:zjh Tryz.prog:=by
 intro e g l h
 unfold recL recs at h
 by_cases h1:e=48
 .subst h1
  simp at h
  obtain⟨rfl,rfl⟩:=h
  exact⟨⟨40,by kernel_rfl⟩,by kernel_rfl,by simp,fun h=>by cases h⟩
 .have e1:(48==e)=false:=beq_false_of_ne (fun q=>h1 q.symm)
  simp[List.find?,e1]at h
theorem ztF (W:World):GOk W (fun _ _=>False) zaE:=⟨fun p hp=>by simp[zva,glb]at hp,fun p hp=>by simp[glbO]at hp⟩
end Go.Proofs.YtbddckhdbnmamaaGreat
