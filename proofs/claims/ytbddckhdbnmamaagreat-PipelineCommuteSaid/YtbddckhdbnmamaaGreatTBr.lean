/-
  What the statements of this seat share (conditions: none).
-/
import Derived.Test.YtbddckhdbnmamaaGreatRows
import Derived.Test.YtbddckhdbnmamaaGreatEXr
import Derived.Test.YtbddckhdbnmamaaGreatPrer
namespace Go.Proofs.YtbddckhdbnmamaaGreat
open Go Go.RowKit
set_option linter.unusedVariables false
set_option linter.unusedSimpArgs false
set_option maxRecDepth 100000
theorem zyC:∀f g,ext f=some g→zl7 Tryz.prog f g:=fun f g h=>by cases h
theorem zvs:∀f g,extM f=some g→zeq Tryz.prog f g:=by
 intro f g h
 unfold extM at h
 split at h
 .rename_i e;subst e;cases h
  exact zuC (enters_of Tryz.func212 (by kernel_rfl) rfl)
 .split at h
  .rename_i e;subst e;cases h
   exact zvD (enters_of Tryz.func213 (by kernel_rfl) rfl)
  .split at h
   .rename_i e;subst e;cases h
    exact zsl (enters_of Tryz.func106 (by kernel_rfl) rfl)
   .split at h
    .rename_i e;subst e;cases h
     exact zsk (enters_of Tryz.func228 (by kernel_rfl) rfl)
    .cases h
theorem own:ownKnob Tryz.prog.godebug=none:=by kernel_rfl
theorem zsS:laidOutB Tryz.prog=true:=by kernel_rfl
theorem mixed:Tryz.prog.follows .mixedOrders=true:=by kernel_rfl
theorem zuH:ziX Tryz.prog:=by
 intro e g l h
 unfold recL recs at h
 by_cases h1:e=48
 .subst h1
  simp at h
  obtain⟨rfl,rfl⟩:=h
  exact⟨⟨40,by kernel_rfl⟩,by kernel_rfl,by simp,fun h=>by cases h⟩
 .have e1:(48==e)=false:=beq_false_of_ne (fun q=>h1 q.symm)
  simp[List.find?,e1]at h
theorem zse (W:World):GOk W (fun _ _=>False) zau:=⟨fun p hp=>by simp[zty,glb]at hp,fun p hp=>by simp[glbO]at hp⟩
end Go.Proofs.YtbddckhdbnmamaaGreat
