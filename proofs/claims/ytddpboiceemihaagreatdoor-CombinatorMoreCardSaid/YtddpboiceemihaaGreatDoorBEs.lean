/-
  Equal lists, by a function on their elements (conditions: none). expr.Equal, and equal statements (conditions: none). syntax.Equal (conditions: none). Sources larger than the statements examine; two lists of procedures joined (conditions: none). combinator.Add (conditions: none). What is valid is equal to itself; parts of what is valid are valid (conditions: none).
-/
import Derived.Test.YtddpboiceemihaaGreatDoorABs
import Derived.Test.YtddpboiceemihaaGreatDoorBBs
section
namespace Go.Proofs.YtddpboiceemihaaGreatDoor
open Go Go.RowKit
set_option linter.unusedVariables false
set_option linter.unusedSimpArgs false
set_option maxRecDepth 10000
end Go.Proofs.YtddpboiceemihaaGreatDoor
end
section
namespace Go.Proofs.YtddpboiceemihaaGreatDoor
open Go Go.RowKit
set_option linter.unusedVariables false
set_option linter.unusedSimpArgs false
set_option maxRecDepth 10000
theorem Ex.eqvs_all2 : ∀ (l m : List Ex), Ex.eqvs l m = all2 Ex.eqv l m
 | [], [] => by simp only [Ex.eqvs, all2]
 | a :: r, b :: s => by simp only [Ex.eqvs, all2, Ex.eqvs_all2 r s]
 | [], b :: s => by simp only [Ex.eqvs, all2]
 | a :: r, [] => by simp only [Ex.eqvs, all2]
end Go.Proofs.YtddpboiceemihaaGreatDoor
end
section
namespace Go.Proofs.YtddpboiceemihaaGreatDoor
open Go Go.RowKit
set_option linter.unusedVariables false
set_option linter.unusedSimpArgs false
set_option maxRecDepth 10000
end Go.Proofs.YtddpboiceemihaaGreatDoor
end
section
namespace Go.Proofs.YtddpboiceemihaaGreatDoor
open Go Go.RowKit
set_option linter.unusedVariables false
set_option linter.unusedSimpArgs false
set_option maxRecDepth 10000
def two (x y : Sl Pr) : AV := .isl (some false) 1 [Sl.av Pr.av 5 x, Sl.av Pr.av 5 y]
end Go.Proofs.YtddpboiceemihaaGreatDoor
end
section
namespace Go.Proofs.YtddpboiceemihaaGreatDoor
open Go Go.RowKit
set_option linter.unusedVariables false
set_option linter.unusedSimpArgs false
set_option maxRecDepth 10000
end Go.Proofs.YtddpboiceemihaaGreatDoor
end
section
namespace Go.Proofs.YtddpboiceemihaaGreatDoor
open Go Go.RowKit
set_option linter.unusedVariables false
set_option linter.unusedSimpArgs false
set_option maxRecDepth 10000
theorem all2_rf {α : Type} {p : α → α → Bool} : ∀ {l : List α}, (∀ a ∈ l, p a a = true) → all2 p l l = true
 | [], _ => rfl
 | a :: r, h => by simp only [all2, h a (by simp), all2_rf (l := r) (fun b hb => h b (by simp [hb])), Bool.and_true]
theorem so_of {s : So} (h1 : s.decls.l.length ≤ 32) (h2 : s.procs.l.length ≤ 32) (h3 : (s.procs.l.map Pr.cost).sum ≤ 300) (h4 : ∀ p ∈ s.procs.l, St.deps p.body.l ≤ 12) (h5 : errOf dcCheck s.decls.l = 0) (h6 : ∀ p ∈ s.procs.l, prCheck p = 0) : soCheck s = 0 := by
 have h7 : (s.procs.l.any fun p => decide (12 < St.deps p.body.l)) = false := by
  rw [Bool.eq_false_iff]; intro ha
  obtain ⟨p, hp, he⟩ := List.any_eq_true.1 ha
  have := h4 p hp
  have := of_decide_eq_true he
  omega
 unfold soCheck
 rw [if_neg (by omega), h7, if_neg (by simp), if_neg (by simpa using h5)]
 exact errOf_ok.2 h6
end Go.Proofs.YtddpboiceemihaaGreatDoor
end
