/-
  The checks of an event, each way through (conditions: none). Printed by genF27.py. The checks of an event, each way through (conditions: none). Printed by genF27.py. The checks of an event: both are one function (conditions: none). The handlers of the events, as the program has them; Clone of the children's states (conditions: none). Handle, as the program and the reference have it: one plain function (conditions: none). Handle, as the reference has it (conditions: none). The laws SupervisorHandle and SupervisorCheck: they are true (conditions: readings of the arguments). Run: the plain function, and what its loop keeps (conditions: none). Run, as the program has it, and as the reference has it (conditions: none). Run, as the reference has it; the law SupervisorRun (conditions: none). What the handlers do, child by child; their actions (conditions: none). What Handle makes of a valid state is valid; the actions (conditions: none). A valid state stays valid (conditions: none). Handle keeps states valid (conditions: none).
-/
import Derived.Test.YtjknjapdcphcfaaGreatFB
import Derived.Test.YtjknjapdcphcfaaGreatAw
namespace Go.Proofs.YtjknjapdcphcfaaGreat
open Go Go.RowKit
set_option linter.unusedVariables false
set_option linter.unusedSimpArgs false
set_option maxRecDepth 100000
set_option maxHeartbeats 4000000
section
theorem c37_kind (x : Spec) (s : State) (e : Event) (hw : IntKind.wrap .i64 ((x.children.l.length : Int) - 1) = (x.children.l.length : Int) - 1) (h1 : ¬ e.kind = 1) (h2 : ¬ e.kind = 2) : okV (evFun W fi58 [x.av, s.av, e.av] []) (fun v _ => v = I 8) := by
 simp [fi58, c58, evFun, enterFr, intBin, resV, rvVs, rvV, hw, e51, e58, h1, h2]
theorem c37_a1 (x : Spec) (s : State) (e : Event) (hw : IntKind.wrap .i64 ((x.children.l.length : Int) - 1) = (x.children.l.length : Int) - 1) (h1 : e.kind = 1) (ha : inR e.child 0 ((x.children.l.length : Int) - 1) = false) : okV (evFun W fi58 [x.av, s.av, e.av] []) (fun v _ => v = I 2) := by
 simp [fi58, c58, evFun, enterFr, intBin, resV, rvVs, rvV, hw, e51, e58, h1, ha]
theorem c37_a2 (x : Spec) (s : State) (e : Event) (hw : IntKind.wrap .i64 ((x.children.l.length : Int) - 1) = (x.children.l.length : Int) - 1) (h1 : e.kind = 1) (ha : inR e.child 0 ((x.children.l.length : Int) - 1) = true) (hb : reasonB e.value = false) : okV (evFun W fi58 [x.av, s.av, e.av] []) (fun v _ => v = I 2) := by
 simp [fi58, c58, evFun, enterFr, intBin, resV, rvVs, rvV, hw, e51, e58, h1, ha, hb]
theorem c37_a3 (x : Spec) (s : State) (e : Event) (hw : IntKind.wrap .i64 ((x.children.l.length : Int) - 1) = (x.children.l.length : Int) - 1) (h1 : e.kind = 1) (ha : inR e.child 0 ((x.children.l.length : Int) - 1) = true) (hb : reasonB e.value = true) (hc : inR e.time 0 1099511627776 = false) : okV (evFun W fi58 [x.av, s.av, e.av] []) (fun v _ => v = I 2) := by
 simp [fi58, c58, evFun, enterFr, intBin, resV, rvVs, rvV, hw, e51, e58, h1, ha, hb, hc]
theorem c37_b1 (x : Spec) (s : State) (e : Event) (hw : IntKind.wrap .i64 ((x.children.l.length : Int) - 1) = (x.children.l.length : Int) - 1) (h2 : e.kind = 2) (ha : ¬ e.child = -1) : okV (evFun W fi58 [x.av, s.av, e.av] []) (fun v _ => v = I 2) := by
 simp [fi58, c58, evFun, enterFr, intBin, resV, rvVs, rvV, hw, e51, e58, h2, ha]
theorem c37_b2 (x : Spec) (s : State) (e : Event) (hw : IntKind.wrap .i64 ((x.children.l.length : Int) - 1) = (x.children.l.length : Int) - 1) (h2 : e.kind = 2) (ha : e.child = -1) (hb : ¬ e.value = 0) : okV (evFun W fi58 [x.av, s.av, e.av] []) (fun v _ => v = I 2) := by
 simp [fi58, c58, evFun, enterFr, intBin, resV, rvVs, rvV, hw, e51, e58, h2, ha, hb]
theorem c37_b3 (x : Spec) (s : State) (e : Event) (hw : IntKind.wrap .i64 ((x.children.l.length : Int) - 1) = (x.children.l.length : Int) - 1) (h2 : e.kind = 2) (ha : e.child = -1) (hb : e.value = 0) (hc : inR e.time 0 1099511627776 = false) : okV (evFun W fi58 [x.av, s.av, e.av] []) (fun v _ => v = I 2) := by
 simp [fi58, c58, evFun, enterFr, intBin, resV, rvVs, rvV, hw, e51, e58, h2, ha, hb, hc]
theorem c37_a4 (x : Spec) (s : State) (e : Event) (hw : IntKind.wrap .i64 ((x.children.l.length : Int) - 1) = (x.children.l.length : Int) - 1) (hwr : IntKind.wrap .i64 ((s.restarts.l.length : Int) - 1) = (s.restarts.l.length : Int) - 1) (h1 : e.kind = 1) (ha : inR e.child 0 ((x.children.l.length : Int) - 1) = true) (hb : reasonB e.value = true) (hc : inR e.time 0 1099511627776 = true) (h0 : 0 < s.restarts.l.length) (h00 : 1 ≤ (s.restarts.l.length : Int)) {t : Int} (ht : s.restarts.l[s.restarts.l.length - 1]? = some t) (hlt : e.time < t) : okV (evFun W fi58 [x.av, s.av, e.av] []) (fun v _ => v = I 9) := by
 simp [fi58, c58, evFun, enterFr, intBin, resV, rvVs, rvV, hw, e51, e58, h1, ha, hb, hc, hwr, h0, h00, ht, hlt]
theorem c37_b4 (x : Spec) (s : State) (e : Event) (hw : IntKind.wrap .i64 ((x.children.l.length : Int) - 1) = (x.children.l.length : Int) - 1) (hwr : IntKind.wrap .i64 ((s.restarts.l.length : Int) - 1) = (s.restarts.l.length : Int) - 1) (h2 : e.kind = 2) (ha : e.child = -1) (hb : e.value = 0) (hc : inR e.time 0 1099511627776 = true) (h0 : 0 < s.restarts.l.length) (h00 : 1 ≤ (s.restarts.l.length : Int)) {t : Int} (ht : s.restarts.l[s.restarts.l.length - 1]? = some t) (hlt : e.time < t) : okV (evFun W fi58 [x.av, s.av, e.av] []) (fun v _ => v = I 9) := by
 simp [fi58, c58, evFun, enterFr, intBin, resV, rvVs, rvV, hw, e51, e58, h2, ha, hb, hc, hwr, h0, h00, ht, hlt]
theorem c37_a5n (x : Spec) (s : State) (e : Event) (hw : IntKind.wrap .i64 ((x.children.l.length : Int) - 1) = (x.children.l.length : Int) - 1) (h1 : e.kind = 1) (ha : inR e.child 0 ((x.children.l.length : Int) - 1) = true) (hb : reasonB e.value = true) (hc : inR e.time 0 1099511627776 = true) (h0 : s.restarts.l.length = 0) (hc0 : 0 ≤ e.child) {c : ChildState} (hcs : s.children.l[e.child.toNat]? = some c) (h3 : ¬ c.status = 1) (h4 : ¬ c.status = 2) : okV (evFun W fi58 [x.av, s.av, e.av] []) (fun v _ => v = I 17) := by
 simp [fi58, c58, evFun, enterFr, intBin, resV, rvVs, rvV, hw, e51, e58, h1, ha, hb, hc, h0, hc0, hcs, h3, h4]
theorem c37_a6n (x : Spec) (s : State) (e : Event) (hw : IntKind.wrap .i64 ((x.children.l.length : Int) - 1) = (x.children.l.length : Int) - 1) (h1 : e.kind = 1) (ha : inR e.child 0 ((x.children.l.length : Int) - 1) = true) (hb : reasonB e.value = true) (hc : inR e.time 0 1099511627776 = true) (h0 : s.restarts.l.length = 0) (hc0 : 0 ≤ e.child) {c : ChildState} (hcs : s.children.l[e.child.toNat]? = some c) (h3 : c.status = 1) : okV (evFun W fi58 [x.av, s.av, e.av] []) (fun v _ => v = I 0) := by
 simp [fi58, c58, evFun, enterFr, intBin, resV, rvVs, rvV, hw, e51, e58, h1, ha, hb, hc, h0, hc0, hcs, h3]
theorem c37_a7n (x : Spec) (s : State) (e : Event) (hw : IntKind.wrap .i64 ((x.children.l.length : Int) - 1) = (x.children.l.length : Int) - 1) (h1 : e.kind = 1) (ha : inR e.child 0 ((x.children.l.length : Int) - 1) = true) (hb : reasonB e.value = true) (hc : inR e.time 0 1099511627776 = true) (h0 : s.restarts.l.length = 0) (hc0 : 0 ≤ e.child) {c : ChildState} (hcs : s.children.l[e.child.toNat]? = some c) (h3 : c.status = 2) : okV (evFun W fi58 [x.av, s.av, e.av] []) (fun v _ => v = I 0) := by
 simp [fi58, c58, evFun, enterFr, intBin, resV, rvVs, rvV, hw, e51, e58, h1, ha, hb, hc, h0, hc0, hcs, h3]
theorem c37_b5n (x : Spec) (s : State) (e : Event) (hw : IntKind.wrap .i64 ((x.children.l.length : Int) - 1) = (x.children.l.length : Int) - 1) (h2 : e.kind = 2) (ha : e.child = -1) (hb : e.value = 0) (hc : inR e.time 0 1099511627776 = true) (h0 : s.restarts.l.length = 0) (h3 : s.status = 4) : okV (evFun W fi58 [x.av, s.av, e.av] []) (fun v _ => v = I 17) := by
 simp [fi58, c58, evFun, enterFr, intBin, resV, rvVs, rvV, hw, e51, e58, h2, ha, hb, hc, h0, h3]
theorem c37_b6n (x : Spec) (s : State) (e : Event) (hw : IntKind.wrap .i64 ((x.children.l.length : Int) - 1) = (x.children.l.length : Int) - 1) (h2 : e.kind = 2) (ha : e.child = -1) (hb : e.value = 0) (hc : inR e.time 0 1099511627776 = true) (h0 : s.restarts.l.length = 0) (h3 : ¬ s.status = 4) : okV (evFun W fi58 [x.av, s.av, e.av] []) (fun v _ => v = I 0) := by
 simp [fi58, c58, evFun, enterFr, intBin, resV, rvVs, rvV, hw, e51, e58, h2, ha, hb, hc, h0, h3]
theorem c37_a5s (x : Spec) (s : State) (e : Event) (hw : IntKind.wrap .i64 ((x.children.l.length : Int) - 1) = (x.children.l.length : Int) - 1) (hwr : IntKind.wrap .i64 ((s.restarts.l.length : Int) - 1) = (s.restarts.l.length : Int) - 1) (h1 : e.kind = 1) (ha : inR e.child 0 ((x.children.l.length : Int) - 1) = true) (hb : reasonB e.value = true) (hc : inR e.time 0 1099511627776 = true) (h0 : 0 < s.restarts.l.length) (h00 : 1 ≤ (s.restarts.l.length : Int)) {t : Int} (ht : s.restarts.l[s.restarts.l.length - 1]? = some t) (hlt : ¬ e.time < t) (hc0 : 0 ≤ e.child) {c : ChildState} (hcs : s.children.l[e.child.toNat]? = some c) (h3 : ¬ c.status = 1) (h4 : ¬ c.status = 2) : okV (evFun W fi58 [x.av, s.av, e.av] []) (fun v _ => v = I 17) := by
 simp [fi58, c58, evFun, enterFr, intBin, resV, rvVs, rvV, hw, e51, e58, h1, ha, hb, hc, hwr, h0, h00, ht, hlt, hc0, hcs, h3, h4]
theorem c37_a6s (x : Spec) (s : State) (e : Event) (hw : IntKind.wrap .i64 ((x.children.l.length : Int) - 1) = (x.children.l.length : Int) - 1) (hwr : IntKind.wrap .i64 ((s.restarts.l.length : Int) - 1) = (s.restarts.l.length : Int) - 1) (h1 : e.kind = 1) (ha : inR e.child 0 ((x.children.l.length : Int) - 1) = true) (hb : reasonB e.value = true) (hc : inR e.time 0 1099511627776 = true) (h0 : 0 < s.restarts.l.length) (h00 : 1 ≤ (s.restarts.l.length : Int)) {t : Int} (ht : s.restarts.l[s.restarts.l.length - 1]? = some t) (hlt : ¬ e.time < t) (hc0 : 0 ≤ e.child) {c : ChildState} (hcs : s.children.l[e.child.toNat]? = some c) (h3 : c.status = 1) : okV (evFun W fi58 [x.av, s.av, e.av] []) (fun v _ => v = I 0) := by
 simp [fi58, c58, evFun, enterFr, intBin, resV, rvVs, rvV, hw, e51, e58, h1, ha, hb, hc, hwr, h0, h00, ht, hlt, hc0, hcs, h3]
theorem c37_a7s (x : Spec) (s : State) (e : Event) (hw : IntKind.wrap .i64 ((x.children.l.length : Int) - 1) = (x.children.l.length : Int) - 1) (hwr : IntKind.wrap .i64 ((s.restarts.l.length : Int) - 1) = (s.restarts.l.length : Int) - 1) (h1 : e.kind = 1) (ha : inR e.child 0 ((x.children.l.length : Int) - 1) = true) (hb : reasonB e.value = true) (hc : inR e.time 0 1099511627776 = true) (h0 : 0 < s.restarts.l.length) (h00 : 1 ≤ (s.restarts.l.length : Int)) {t : Int} (ht : s.restarts.l[s.restarts.l.length - 1]? = some t) (hlt : ¬ e.time < t) (hc0 : 0 ≤ e.child) {c : ChildState} (hcs : s.children.l[e.child.toNat]? = some c) (h3 : c.status = 2) : okV (evFun W fi58 [x.av, s.av, e.av] []) (fun v _ => v = I 0) := by
 simp [fi58, c58, evFun, enterFr, intBin, resV, rvVs, rvV, hw, e51, e58, h1, ha, hb, hc, hwr, h0, h00, ht, hlt, hc0, hcs, h3]
theorem c37_b5s (x : Spec) (s : State) (e : Event) (hw : IntKind.wrap .i64 ((x.children.l.length : Int) - 1) = (x.children.l.length : Int) - 1) (hwr : IntKind.wrap .i64 ((s.restarts.l.length : Int) - 1) = (s.restarts.l.length : Int) - 1) (h2 : e.kind = 2) (ha : e.child = -1) (hb : e.value = 0) (hc : inR e.time 0 1099511627776 = true) (h0 : 0 < s.restarts.l.length) (h00 : 1 ≤ (s.restarts.l.length : Int)) {t : Int} (ht : s.restarts.l[s.restarts.l.length - 1]? = some t) (hlt : ¬ e.time < t) (h3 : s.status = 4) : okV (evFun W fi58 [x.av, s.av, e.av] []) (fun v _ => v = I 17) := by
 simp [fi58, c58, evFun, enterFr, intBin, resV, rvVs, rvV, hw, e51, e58, h2, ha, hb, hc, hwr, h0, h00, ht, hlt, h3]
theorem c37_b6s (x : Spec) (s : State) (e : Event) (hw : IntKind.wrap .i64 ((x.children.l.length : Int) - 1) = (x.children.l.length : Int) - 1) (hwr : IntKind.wrap .i64 ((s.restarts.l.length : Int) - 1) = (s.restarts.l.length : Int) - 1) (h2 : e.kind = 2) (ha : e.child = -1) (hb : e.value = 0) (hc : inR e.time 0 1099511627776 = true) (h0 : 0 < s.restarts.l.length) (h00 : 1 ≤ (s.restarts.l.length : Int)) {t : Int} (ht : s.restarts.l[s.restarts.l.length - 1]? = some t) (hlt : ¬ e.time < t) (h3 : ¬ s.status = 4) : okV (evFun W fi58 [x.av, s.av, e.av] []) (fun v _ => v = I 0) := by
 simp [fi58, c58, evFun, enterFr, intBin, resV, rvVs, rvV, hw, e51, e58, h2, ha, hb, hc, hwr, h0, h00, ht, hlt, h3]
end
section
theorem c41_kind (x : Spec) (s : State) (e : Event) (hw : IntKind.wrap .i64 ((x.children.l.length : Int) - 1) = (x.children.l.length : Int) - 1) (hv : W.pure 41 [x.av, s.av] = some (I 0)) (h1 : ¬ e.kind = 1) (h2 : ¬ e.kind = 2) : okV (evFun W fi68 [x.av, s.av, e.av] []) (fun v _ => v = I 8) := by
 simp [fi68, c68, evFun, enterFr, intBin, resV, rvVs, rvV, hw, e47, e62, hv, h1, h2]
theorem c41_a1 (x : Spec) (s : State) (e : Event) (hw : IntKind.wrap .i64 ((x.children.l.length : Int) - 1) = (x.children.l.length : Int) - 1) (hv : W.pure 41 [x.av, s.av] = some (I 0)) (h1 : e.kind = 1) (ha : inR e.child 0 ((x.children.l.length : Int) - 1) = false) : okV (evFun W fi68 [x.av, s.av, e.av] []) (fun v _ => v = I 2) := by
 simp [fi68, c68, evFun, enterFr, intBin, resV, rvVs, rvV, hw, e47, e62, hv, h1, ha]
theorem c41_a2 (x : Spec) (s : State) (e : Event) (hw : IntKind.wrap .i64 ((x.children.l.length : Int) - 1) = (x.children.l.length : Int) - 1) (hv : W.pure 41 [x.av, s.av] = some (I 0)) (h1 : e.kind = 1) (ha : inR e.child 0 ((x.children.l.length : Int) - 1) = true) (hb : reasonB e.value = false) : okV (evFun W fi68 [x.av, s.av, e.av] []) (fun v _ => v = I 2) := by
 simp [fi68, c68, evFun, enterFr, intBin, resV, rvVs, rvV, hw, e47, e62, hv, h1, ha, hb]
theorem c41_a3 (x : Spec) (s : State) (e : Event) (hw : IntKind.wrap .i64 ((x.children.l.length : Int) - 1) = (x.children.l.length : Int) - 1) (hv : W.pure 41 [x.av, s.av] = some (I 0)) (h1 : e.kind = 1) (ha : inR e.child 0 ((x.children.l.length : Int) - 1) = true) (hb : reasonB e.value = true) (hc : inR e.time 0 1099511627776 = false) : okV (evFun W fi68 [x.av, s.av, e.av] []) (fun v _ => v = I 2) := by
 simp [fi68, c68, evFun, enterFr, intBin, resV, rvVs, rvV, hw, e47, e62, hv, h1, ha, hb, hc]
theorem c41_b1 (x : Spec) (s : State) (e : Event) (hw : IntKind.wrap .i64 ((x.children.l.length : Int) - 1) = (x.children.l.length : Int) - 1) (hv : W.pure 41 [x.av, s.av] = some (I 0)) (h2 : e.kind = 2) (ha : ¬ e.child = -1) : okV (evFun W fi68 [x.av, s.av, e.av] []) (fun v _ => v = I 2) := by
 simp [fi68, c68, evFun, enterFr, intBin, resV, rvVs, rvV, hw, e47, e62, hv, h2, ha]
theorem c41_b2 (x : Spec) (s : State) (e : Event) (hw : IntKind.wrap .i64 ((x.children.l.length : Int) - 1) = (x.children.l.length : Int) - 1) (hv : W.pure 41 [x.av, s.av] = some (I 0)) (h2 : e.kind = 2) (ha : e.child = -1) (hb : ¬ e.value = 0) : okV (evFun W fi68 [x.av, s.av, e.av] []) (fun v _ => v = I 2) := by
 simp [fi68, c68, evFun, enterFr, intBin, resV, rvVs, rvV, hw, e47, e62, hv, h2, ha, hb]
theorem c41_b3 (x : Spec) (s : State) (e : Event) (hw : IntKind.wrap .i64 ((x.children.l.length : Int) - 1) = (x.children.l.length : Int) - 1) (hv : W.pure 41 [x.av, s.av] = some (I 0)) (h2 : e.kind = 2) (ha : e.child = -1) (hb : e.value = 0) (hc : inR e.time 0 1099511627776 = false) : okV (evFun W fi68 [x.av, s.av, e.av] []) (fun v _ => v = I 2) := by
 simp [fi68, c68, evFun, enterFr, intBin, resV, rvVs, rvV, hw, e47, e62, hv, h2, ha, hb, hc]
theorem c41_a4 (x : Spec) (s : State) (e : Event) (hw : IntKind.wrap .i64 ((x.children.l.length : Int) - 1) = (x.children.l.length : Int) - 1) (hv : W.pure 41 [x.av, s.av] = some (I 0)) (hwr : IntKind.wrap .i64 ((s.restarts.l.length : Int) - 1) = (s.restarts.l.length : Int) - 1) (h1 : e.kind = 1) (ha : inR e.child 0 ((x.children.l.length : Int) - 1) = true) (hb : reasonB e.value = true) (hc : inR e.time 0 1099511627776 = true) (h0 : 0 < s.restarts.l.length) (h00 : 1 ≤ (s.restarts.l.length : Int)) {t : Int} (ht : s.restarts.l[s.restarts.l.length - 1]? = some t) (hlt : e.time < t) : okV (evFun W fi68 [x.av, s.av, e.av] []) (fun v _ => v = I 9) := by
 simp [fi68, c68, evFun, enterFr, intBin, resV, rvVs, rvV, hw, e47, e62, hv, h1, ha, hb, hc, hwr, h0, h00, ht, hlt]
theorem c41_b4 (x : Spec) (s : State) (e : Event) (hw : IntKind.wrap .i64 ((x.children.l.length : Int) - 1) = (x.children.l.length : Int) - 1) (hv : W.pure 41 [x.av, s.av] = some (I 0)) (hwr : IntKind.wrap .i64 ((s.restarts.l.length : Int) - 1) = (s.restarts.l.length : Int) - 1) (h2 : e.kind = 2) (ha : e.child = -1) (hb : e.value = 0) (hc : inR e.time 0 1099511627776 = true) (h0 : 0 < s.restarts.l.length) (h00 : 1 ≤ (s.restarts.l.length : Int)) {t : Int} (ht : s.restarts.l[s.restarts.l.length - 1]? = some t) (hlt : e.time < t) : okV (evFun W fi68 [x.av, s.av, e.av] []) (fun v _ => v = I 9) := by
 simp [fi68, c68, evFun, enterFr, intBin, resV, rvVs, rvV, hw, e47, e62, hv, h2, ha, hb, hc, hwr, h0, h00, ht, hlt]
theorem c41_a5n (x : Spec) (s : State) (e : Event) (hw : IntKind.wrap .i64 ((x.children.l.length : Int) - 1) = (x.children.l.length : Int) - 1) (hv : W.pure 41 [x.av, s.av] = some (I 0)) (h1 : e.kind = 1) (ha : inR e.child 0 ((x.children.l.length : Int) - 1) = true) (hb : reasonB e.value = true) (hc : inR e.time 0 1099511627776 = true) (h0 : s.restarts.l.length = 0) (hc0 : 0 ≤ e.child) {c : ChildState} (hcs : s.children.l[e.child.toNat]? = some c) (h3 : ¬ c.status = 1) (h4 : ¬ c.status = 2) : okV (evFun W fi68 [x.av, s.av, e.av] []) (fun v _ => v = I 17) := by
 simp [fi68, c68, evFun, enterFr, intBin, resV, rvVs, rvV, hw, e47, e62, hv, h1, ha, hb, hc, h0, hc0, hcs, h3, h4]
theorem c41_a6n (x : Spec) (s : State) (e : Event) (hw : IntKind.wrap .i64 ((x.children.l.length : Int) - 1) = (x.children.l.length : Int) - 1) (hv : W.pure 41 [x.av, s.av] = some (I 0)) (h1 : e.kind = 1) (ha : inR e.child 0 ((x.children.l.length : Int) - 1) = true) (hb : reasonB e.value = true) (hc : inR e.time 0 1099511627776 = true) (h0 : s.restarts.l.length = 0) (hc0 : 0 ≤ e.child) {c : ChildState} (hcs : s.children.l[e.child.toNat]? = some c) (h3 : c.status = 1) : okV (evFun W fi68 [x.av, s.av, e.av] []) (fun v _ => v = I 0) := by
 simp [fi68, c68, evFun, enterFr, intBin, resV, rvVs, rvV, hw, e47, e62, hv, h1, ha, hb, hc, h0, hc0, hcs, h3]
theorem c41_a7n (x : Spec) (s : State) (e : Event) (hw : IntKind.wrap .i64 ((x.children.l.length : Int) - 1) = (x.children.l.length : Int) - 1) (hv : W.pure 41 [x.av, s.av] = some (I 0)) (h1 : e.kind = 1) (ha : inR e.child 0 ((x.children.l.length : Int) - 1) = true) (hb : reasonB e.value = true) (hc : inR e.time 0 1099511627776 = true) (h0 : s.restarts.l.length = 0) (hc0 : 0 ≤ e.child) {c : ChildState} (hcs : s.children.l[e.child.toNat]? = some c) (h3 : c.status = 2) : okV (evFun W fi68 [x.av, s.av, e.av] []) (fun v _ => v = I 0) := by
 simp [fi68, c68, evFun, enterFr, intBin, resV, rvVs, rvV, hw, e47, e62, hv, h1, ha, hb, hc, h0, hc0, hcs, h3]
theorem c41_b5n (x : Spec) (s : State) (e : Event) (hw : IntKind.wrap .i64 ((x.children.l.length : Int) - 1) = (x.children.l.length : Int) - 1) (hv : W.pure 41 [x.av, s.av] = some (I 0)) (h2 : e.kind = 2) (ha : e.child = -1) (hb : e.value = 0) (hc : inR e.time 0 1099511627776 = true) (h0 : s.restarts.l.length = 0) (h3 : s.status = 4) : okV (evFun W fi68 [x.av, s.av, e.av] []) (fun v _ => v = I 17) := by
 simp [fi68, c68, evFun, enterFr, intBin, resV, rvVs, rvV, hw, e47, e62, hv, h2, ha, hb, hc, h0, h3]
theorem c41_b6n (x : Spec) (s : State) (e : Event) (hw : IntKind.wrap .i64 ((x.children.l.length : Int) - 1) = (x.children.l.length : Int) - 1) (hv : W.pure 41 [x.av, s.av] = some (I 0)) (h2 : e.kind = 2) (ha : e.child = -1) (hb : e.value = 0) (hc : inR e.time 0 1099511627776 = true) (h0 : s.restarts.l.length = 0) (h3 : ¬ s.status = 4) : okV (evFun W fi68 [x.av, s.av, e.av] []) (fun v _ => v = I 0) := by
 simp [fi68, c68, evFun, enterFr, intBin, resV, rvVs, rvV, hw, e47, e62, hv, h2, ha, hb, hc, h0, h3]
theorem c41_a5s (x : Spec) (s : State) (e : Event) (hw : IntKind.wrap .i64 ((x.children.l.length : Int) - 1) = (x.children.l.length : Int) - 1) (hv : W.pure 41 [x.av, s.av] = some (I 0)) (hwr : IntKind.wrap .i64 ((s.restarts.l.length : Int) - 1) = (s.restarts.l.length : Int) - 1) (h1 : e.kind = 1) (ha : inR e.child 0 ((x.children.l.length : Int) - 1) = true) (hb : reasonB e.value = true) (hc : inR e.time 0 1099511627776 = true) (h0 : 0 < s.restarts.l.length) (h00 : 1 ≤ (s.restarts.l.length : Int)) {t : Int} (ht : s.restarts.l[s.restarts.l.length - 1]? = some t) (hlt : ¬ e.time < t) (hc0 : 0 ≤ e.child) {c : ChildState} (hcs : s.children.l[e.child.toNat]? = some c) (h3 : ¬ c.status = 1) (h4 : ¬ c.status = 2) : okV (evFun W fi68 [x.av, s.av, e.av] []) (fun v _ => v = I 17) := by
 simp [fi68, c68, evFun, enterFr, intBin, resV, rvVs, rvV, hw, e47, e62, hv, h1, ha, hb, hc, hwr, h0, h00, ht, hlt, hc0, hcs, h3, h4]
theorem c41_a6s (x : Spec) (s : State) (e : Event) (hw : IntKind.wrap .i64 ((x.children.l.length : Int) - 1) = (x.children.l.length : Int) - 1) (hv : W.pure 41 [x.av, s.av] = some (I 0)) (hwr : IntKind.wrap .i64 ((s.restarts.l.length : Int) - 1) = (s.restarts.l.length : Int) - 1) (h1 : e.kind = 1) (ha : inR e.child 0 ((x.children.l.length : Int) - 1) = true) (hb : reasonB e.value = true) (hc : inR e.time 0 1099511627776 = true) (h0 : 0 < s.restarts.l.length) (h00 : 1 ≤ (s.restarts.l.length : Int)) {t : Int} (ht : s.restarts.l[s.restarts.l.length - 1]? = some t) (hlt : ¬ e.time < t) (hc0 : 0 ≤ e.child) {c : ChildState} (hcs : s.children.l[e.child.toNat]? = some c) (h3 : c.status = 1) : okV (evFun W fi68 [x.av, s.av, e.av] []) (fun v _ => v = I 0) := by
 simp [fi68, c68, evFun, enterFr, intBin, resV, rvVs, rvV, hw, e47, e62, hv, h1, ha, hb, hc, hwr, h0, h00, ht, hlt, hc0, hcs, h3]
theorem c41_a7s (x : Spec) (s : State) (e : Event) (hw : IntKind.wrap .i64 ((x.children.l.length : Int) - 1) = (x.children.l.length : Int) - 1) (hv : W.pure 41 [x.av, s.av] = some (I 0)) (hwr : IntKind.wrap .i64 ((s.restarts.l.length : Int) - 1) = (s.restarts.l.length : Int) - 1) (h1 : e.kind = 1) (ha : inR e.child 0 ((x.children.l.length : Int) - 1) = true) (hb : reasonB e.value = true) (hc : inR e.time 0 1099511627776 = true) (h0 : 0 < s.restarts.l.length) (h00 : 1 ≤ (s.restarts.l.length : Int)) {t : Int} (ht : s.restarts.l[s.restarts.l.length - 1]? = some t) (hlt : ¬ e.time < t) (hc0 : 0 ≤ e.child) {c : ChildState} (hcs : s.children.l[e.child.toNat]? = some c) (h3 : c.status = 2) : okV (evFun W fi68 [x.av, s.av, e.av] []) (fun v _ => v = I 0) := by
 simp [fi68, c68, evFun, enterFr, intBin, resV, rvVs, rvV, hw, e47, e62, hv, h1, ha, hb, hc, hwr, h0, h00, ht, hlt, hc0, hcs, h3]
theorem c41_b5s (x : Spec) (s : State) (e : Event) (hw : IntKind.wrap .i64 ((x.children.l.length : Int) - 1) = (x.children.l.length : Int) - 1) (hv : W.pure 41 [x.av, s.av] = some (I 0)) (hwr : IntKind.wrap .i64 ((s.restarts.l.length : Int) - 1) = (s.restarts.l.length : Int) - 1) (h2 : e.kind = 2) (ha : e.child = -1) (hb : e.value = 0) (hc : inR e.time 0 1099511627776 = true) (h0 : 0 < s.restarts.l.length) (h00 : 1 ≤ (s.restarts.l.length : Int)) {t : Int} (ht : s.restarts.l[s.restarts.l.length - 1]? = some t) (hlt : ¬ e.time < t) (h3 : s.status = 4) : okV (evFun W fi68 [x.av, s.av, e.av] []) (fun v _ => v = I 17) := by
 simp [fi68, c68, evFun, enterFr, intBin, resV, rvVs, rvV, hw, e47, e62, hv, h2, ha, hb, hc, hwr, h0, h00, ht, hlt, h3]
theorem c41_b6s (x : Spec) (s : State) (e : Event) (hw : IntKind.wrap .i64 ((x.children.l.length : Int) - 1) = (x.children.l.length : Int) - 1) (hv : W.pure 41 [x.av, s.av] = some (I 0)) (hwr : IntKind.wrap .i64 ((s.restarts.l.length : Int) - 1) = (s.restarts.l.length : Int) - 1) (h2 : e.kind = 2) (ha : e.child = -1) (hb : e.value = 0) (hc : inR e.time 0 1099511627776 = true) (h0 : 0 < s.restarts.l.length) (h00 : 1 ≤ (s.restarts.l.length : Int)) {t : Int} (ht : s.restarts.l[s.restarts.l.length - 1]? = some t) (hlt : ¬ e.time < t) (h3 : ¬ s.status = 4) : okV (evFun W fi68 [x.av, s.av, e.av] []) (fun v _ => v = I 0) := by
 simp [fi68, c68, evFun, enterFr, intBin, resV, rvVs, rvV, hw, e47, e62, hv, h2, ha, hb, hc, hwr, h0, h00, ht, hlt, h3]
end
section
theorem ex_eq {o : Option (AV × Heap)} (n : Int) {m : Int} (h : okV o (fun v _ => v = I n)) (e : m = n) : ∃ G, o = some (I m, G) := by
 obtain ⟨v, G, h1, rfl⟩ := okV_iff.1 h
 exact ⟨G, by rw [h1, e]⟩
attribute [local irreducible] okV
theorem ex_of {o : Option (AV × Heap)} {n : Int} (h : okV o (fun v _ => v = I n)) : ∃ G, o = some (I n, G) := ex_eq n h rfl
def malB (x : Spec) (e : Event) : Bool := (if e.kind = 1 then !inR e.child 0 ((x.children.l.length : Int) - 1) || !reasonB e.value else !decide (e.child = -1) || !decide (e.value = 0)) || !inR e.time 0 1099511627776
def staleB (s : State) (e : Event) : Bool := match s.restarts.l[s.restarts.l.length - 1]? with | some t => decide (e.time < t) | none => false
def deadB (s : State) (e : Event) : Bool := if e.kind = 1 then (match s.children.l[e.child.toNat]? with | some c => !decide (c.status = 1) && !decide (c.status = 2) | none => true) else decide (s.status = 4)
def checkN (x : Spec) (s : State) (e : Event) : Int := if ¬ e.kind = 1 ∧ ¬ e.kind = 2 then 8 else if malB x e = true then 2 else if staleB s e = true then 9 else if deadB s e = true then 17 else 0
theorem e37 (x : Spec) (s : State) (e : Event) (hx : x.children.l.length = s.children.l.length) (hl : s.children.l.length ≤ 100000) (hr : s.restarts.l.length ≤ 1000000) : ∃ G, evFun W fi58 [x.av, s.av, e.av] [] = some (I (checkN x s e), G) := by
 have hw : IntKind.wrap .i64 ((x.children.l.length : Int) - 1) = (x.children.l.length : Int) - 1 := wrap_pred (by omega)
 have hwr : IntKind.wrap .i64 ((s.restarts.l.length : Int) - 1) = (s.restarts.l.length : Int) - 1 := wrap_pred (by omega)
 by_cases h1 : e.kind = 1
 ·cases ha : inR e.child 0 ((x.children.l.length : Int) - 1) with
  | false =>
   have hk : checkN x s e = 2 := by simp [checkN, malB, h1, ha]
   rw [hk]; apply ex_of; apply c37_a1 x s e hw h1 ha
  | true =>
  cases hb : reasonB e.value with
  | false =>
   have hk : checkN x s e = 2 := by simp [checkN, malB, h1, ha, hb]
   rw [hk]; apply ex_of; apply c37_a2 x s e hw h1 ha hb
  | true =>
  cases hc : inR e.time 0 1099511627776 with
  | false =>
   have hk : checkN x s e = 2 := by simp [checkN, malB, h1, ha, hb, hc]
   rw [hk]; apply ex_of; apply c37_a3 x s e hw h1 ha hb hc
  | true =>
  have hin : 0 ≤ e.child ∧ e.child ≤ (x.children.l.length : Int) - 1 := by simpa [inR] using ha
  have hcl : e.child.toNat < s.children.l.length := by omega
  have hcs : s.children.l[e.child.toNat]? = some s.children.l[e.child.toNat] := gEg hcl
  have hmal : malB x e = false := by simp [malB, h1, ha, hb, hc]
  have hdead : deadB s e = (!decide ((s.children.l[e.child.toNat]).status = 1) && !decide ((s.children.l[e.child.toNat]).status = 2)) := by simp only [deadB, if_pos h1, hcs]
  have hkind : ¬ (¬ e.kind = 1 ∧ ¬ e.kind = 2) := fun h => h.1 h1
  have hck : checkN x s e = if staleB s e = true then 9 else if deadB s e = true then 17 else 0 := by
   simp only [checkN, if_neg hkind, hmal, Bool.false_eq_true, if_false]
  rw [hck, hdead]
  by_cases hz : s.restarts.l.length = 0
  ·have hst : staleB s e = false := by
    have : s.restarts.l = [] := by simpa using hz
    simp [staleB, this]
   rw [hst]
   by_cases h3 : (s.children.l[e.child.toNat]).status = 1
   ·(apply ex_eq 0; apply c37_a6n x s e hw h1 ha hb hc hz hin.1 hcs h3; simp [h3])
   ·by_cases h4 : (s.children.l[e.child.toNat]).status = 2
    ·(apply ex_eq 0; apply c37_a7n x s e hw h1 ha hb hc hz hin.1 hcs h4; simp [h4])
    ·(apply ex_eq 17; apply c37_a5n x s e hw h1 ha hb hc hz hin.1 hcs h3 h4; simp [h3, h4])
  ·have h0 : 0 < s.restarts.l.length := by omega
   have h00 : 1 ≤ (s.restarts.l.length : Int) := by omega
   have ht : s.restarts.l[s.restarts.l.length - 1]? = some s.restarts.l[s.restarts.l.length - 1] := gEg (by omega)
   have hst : staleB s e = decide (e.time < s.restarts.l[s.restarts.l.length - 1]) := by simp only [staleB, ht]
   rw [hst]
   by_cases hlt : e.time < s.restarts.l[s.restarts.l.length - 1]
   ·rw [if_pos (by simpa using hlt)]
    apply ex_of; apply c37_a4 x s e hw hwr h1 ha hb hc h0 h00 ht hlt
   ·rw [if_neg (by simpa using hlt)]
    by_cases h3 : (s.children.l[e.child.toNat]).status = 1
    ·(apply ex_eq 0; apply c37_a6s x s e hw hwr h1 ha hb hc h0 h00 ht hlt hin.1 hcs h3; simp [h3])
    ·by_cases h4 : (s.children.l[e.child.toNat]).status = 2
     ·(apply ex_eq 0; apply c37_a7s x s e hw hwr h1 ha hb hc h0 h00 ht hlt hin.1 hcs h4; simp [h4])
     ·(apply ex_eq 17; apply c37_a5s x s e hw hwr h1 ha hb hc h0 h00 ht hlt hin.1 hcs h3 h4; simp [h3, h4])
 ·by_cases h2 : e.kind = 2
  ·by_cases ha : e.child = -1
   ·by_cases hb : e.value = 0
    ·cases hc : inR e.time 0 1099511627776 with
     | false =>
      have hk : checkN x s e = 2 := by simp [checkN, malB, h1, h2, ha, hb, hc]
      rw [hk]; apply ex_of; apply c37_b3 x s e hw h2 ha hb hc
     | true =>
     have hmal : malB x e = false := by simp [malB, h1, h2, ha, hb, hc]
     have hdead : deadB s e = decide (s.status = 4) := by simp only [deadB, if_neg h1]
     have hkind : ¬ (¬ e.kind = 1 ∧ ¬ e.kind = 2) := fun h => h.2 h2
     have hck : checkN x s e = if staleB s e = true then 9 else if deadB s e = true then 17 else 0 := by
      simp only [checkN, if_neg hkind, hmal, Bool.false_eq_true, if_false]
     rw [hck, hdead]
     by_cases hz : s.restarts.l.length = 0
     ·have hst : staleB s e = false := by
       have : s.restarts.l = [] := by simpa using hz
       simp [staleB, this]
      rw [hst]
      by_cases h3 : s.status = 4
      ·(apply ex_eq 17; apply c37_b5n x s e hw h2 ha hb hc hz h3; simp [h3])
      ·(apply ex_eq 0; apply c37_b6n x s e hw h2 ha hb hc hz h3; simp [h3])
     ·have h0 : 0 < s.restarts.l.length := by omega
      have h00 : 1 ≤ (s.restarts.l.length : Int) := by omega
      have ht : s.restarts.l[s.restarts.l.length - 1]? = some s.restarts.l[s.restarts.l.length - 1] := gEg (by omega)
      have hst : staleB s e = decide (e.time < s.restarts.l[s.restarts.l.length - 1]) := by simp only [staleB, ht]
      rw [hst]
      by_cases hlt : e.time < s.restarts.l[s.restarts.l.length - 1]
      ·rw [if_pos (by simpa using hlt)]
       apply ex_of; apply c37_b4 x s e hw hwr h2 ha hb hc h0 h00 ht hlt
      ·rw [if_neg (by simpa using hlt)]
       by_cases h3 : s.status = 4
       ·(apply ex_eq 17; apply c37_b5s x s e hw hwr h2 ha hb hc h0 h00 ht hlt h3; simp [h3])
       ·(apply ex_eq 0; apply c37_b6s x s e hw hwr h2 ha hb hc h0 h00 ht hlt h3; simp [h3])
    ·have hk : checkN x s e = 2 := by simp [checkN, malB, h1, h2, ha, hb]
     rw [hk]; apply ex_of; apply c37_b2 x s e hw h2 ha hb
   ·have hk : checkN x s e = 2 := by simp [checkN, malB, h1, h2, ha]
    rw [hk]; apply ex_of; apply c37_b1 x s e hw h2 ha
  ·have hk : checkN x s e = 8 := by simp [checkN, h1, h2]
   rw [hk]; apply ex_of; apply c37_kind x s e hw h1 h2
theorem e41 (x : Spec) (s : State) (e : Event) (hx : x.children.l.length = s.children.l.length) (hl : s.children.l.length ≤ 100000) (hr : s.restarts.l.length ≤ 1000000) (hv : W.pure 41 [x.av, s.av] = some (I 0)) : ∃ G, evFun W fi68 [x.av, s.av, e.av] [] = some (I (checkN x s e), G) := by
 have hw : IntKind.wrap .i64 ((x.children.l.length : Int) - 1) = (x.children.l.length : Int) - 1 := wrap_pred (by omega)
 have hwr : IntKind.wrap .i64 ((s.restarts.l.length : Int) - 1) = (s.restarts.l.length : Int) - 1 := wrap_pred (by omega)
 by_cases h1 : e.kind = 1
 ·cases ha : inR e.child 0 ((x.children.l.length : Int) - 1) with
  | false =>
   have hk : checkN x s e = 2 := by simp [checkN, malB, h1, ha]
   rw [hk]; apply ex_of; apply c41_a1 x s e hw hv h1 ha
  | true =>
  cases hb : reasonB e.value with
  | false =>
   have hk : checkN x s e = 2 := by simp [checkN, malB, h1, ha, hb]
   rw [hk]; apply ex_of; apply c41_a2 x s e hw hv h1 ha hb
  | true =>
  cases hc : inR e.time 0 1099511627776 with
  | false =>
   have hk : checkN x s e = 2 := by simp [checkN, malB, h1, ha, hb, hc]
   rw [hk]; apply ex_of; apply c41_a3 x s e hw hv h1 ha hb hc
  | true =>
  have hin : 0 ≤ e.child ∧ e.child ≤ (x.children.l.length : Int) - 1 := by simpa [inR] using ha
  have hcl : e.child.toNat < s.children.l.length := by omega
  have hcs : s.children.l[e.child.toNat]? = some s.children.l[e.child.toNat] := gEg hcl
  have hmal : malB x e = false := by simp [malB, h1, ha, hb, hc]
  have hdead : deadB s e = (!decide ((s.children.l[e.child.toNat]).status = 1) && !decide ((s.children.l[e.child.toNat]).status = 2)) := by simp only [deadB, if_pos h1, hcs]
  have hkind : ¬ (¬ e.kind = 1 ∧ ¬ e.kind = 2) := fun h => h.1 h1
  have hck : checkN x s e = if staleB s e = true then 9 else if deadB s e = true then 17 else 0 := by
   simp only [checkN, if_neg hkind, hmal, Bool.false_eq_true, if_false]
  rw [hck, hdead]
  by_cases hz : s.restarts.l.length = 0
  ·have hst : staleB s e = false := by
    have : s.restarts.l = [] := by simpa using hz
    simp [staleB, this]
   rw [hst]
   by_cases h3 : (s.children.l[e.child.toNat]).status = 1
   ·(apply ex_eq 0; apply c41_a6n x s e hw hv h1 ha hb hc hz hin.1 hcs h3; simp [h3])
   ·by_cases h4 : (s.children.l[e.child.toNat]).status = 2
    ·(apply ex_eq 0; apply c41_a7n x s e hw hv h1 ha hb hc hz hin.1 hcs h4; simp [h4])
    ·(apply ex_eq 17; apply c41_a5n x s e hw hv h1 ha hb hc hz hin.1 hcs h3 h4; simp [h3, h4])
  ·have h0 : 0 < s.restarts.l.length := by omega
   have h00 : 1 ≤ (s.restarts.l.length : Int) := by omega
   have ht : s.restarts.l[s.restarts.l.length - 1]? = some s.restarts.l[s.restarts.l.length - 1] := gEg (by omega)
   have hst : staleB s e = decide (e.time < s.restarts.l[s.restarts.l.length - 1]) := by simp only [staleB, ht]
   rw [hst]
   by_cases hlt : e.time < s.restarts.l[s.restarts.l.length - 1]
   ·rw [if_pos (by simpa using hlt)]
    apply ex_of; apply c41_a4 x s e hw hv hwr h1 ha hb hc h0 h00 ht hlt
   ·rw [if_neg (by simpa using hlt)]
    by_cases h3 : (s.children.l[e.child.toNat]).status = 1
    ·(apply ex_eq 0; apply c41_a6s x s e hw hv hwr h1 ha hb hc h0 h00 ht hlt hin.1 hcs h3; simp [h3])
    ·by_cases h4 : (s.children.l[e.child.toNat]).status = 2
     ·(apply ex_eq 0; apply c41_a7s x s e hw hv hwr h1 ha hb hc h0 h00 ht hlt hin.1 hcs h4; simp [h4])
     ·(apply ex_eq 17; apply c41_a5s x s e hw hv hwr h1 ha hb hc h0 h00 ht hlt hin.1 hcs h3 h4; simp [h3, h4])
 ·by_cases h2 : e.kind = 2
  ·by_cases ha : e.child = -1
   ·by_cases hb : e.value = 0
    ·cases hc : inR e.time 0 1099511627776 with
     | false =>
      have hk : checkN x s e = 2 := by simp [checkN, malB, h1, h2, ha, hb, hc]
      rw [hk]; apply ex_of; apply c41_b3 x s e hw hv h2 ha hb hc
     | true =>
     have hmal : malB x e = false := by simp [malB, h1, h2, ha, hb, hc]
     have hdead : deadB s e = decide (s.status = 4) := by simp only [deadB, if_neg h1]
     have hkind : ¬ (¬ e.kind = 1 ∧ ¬ e.kind = 2) := fun h => h.2 h2
     have hck : checkN x s e = if staleB s e = true then 9 else if deadB s e = true then 17 else 0 := by
      simp only [checkN, if_neg hkind, hmal, Bool.false_eq_true, if_false]
     rw [hck, hdead]
     by_cases hz : s.restarts.l.length = 0
     ·have hst : staleB s e = false := by
       have : s.restarts.l = [] := by simpa using hz
       simp [staleB, this]
      rw [hst]
      by_cases h3 : s.status = 4
      ·(apply ex_eq 17; apply c41_b5n x s e hw hv h2 ha hb hc hz h3; simp [h3])
      ·(apply ex_eq 0; apply c41_b6n x s e hw hv h2 ha hb hc hz h3; simp [h3])
     ·have h0 : 0 < s.restarts.l.length := by omega
      have h00 : 1 ≤ (s.restarts.l.length : Int) := by omega
      have ht : s.restarts.l[s.restarts.l.length - 1]? = some s.restarts.l[s.restarts.l.length - 1] := gEg (by omega)
      have hst : staleB s e = decide (e.time < s.restarts.l[s.restarts.l.length - 1]) := by simp only [staleB, ht]
      rw [hst]
      by_cases hlt : e.time < s.restarts.l[s.restarts.l.length - 1]
      ·rw [if_pos (by simpa using hlt)]
       apply ex_of; apply c41_b4 x s e hw hv hwr h2 ha hb hc h0 h00 ht hlt
      ·rw [if_neg (by simpa using hlt)]
       by_cases h3 : s.status = 4
       ·(apply ex_eq 17; apply c41_b5s x s e hw hv hwr h2 ha hb hc h0 h00 ht hlt h3; simp [h3])
       ·(apply ex_eq 0; apply c41_b6s x s e hw hv hwr h2 ha hb hc h0 h00 ht hlt h3; simp [h3])
    ·have hk : checkN x s e = 2 := by simp [checkN, malB, h1, h2, ha, hb]
     rw [hk]; apply ex_of; apply c41_b2 x s e hw hv h2 ha hb
   ·have hk : checkN x s e = 2 := by simp [checkN, malB, h1, h2, ha]
    rw [hk]; apply ex_of; apply c41_b1 x s e hw hv h2 ha
  ·have hk : checkN x s e = 8 := by simp [checkN, h1, h2]
   rw [hk]; apply ex_of; apply c41_kind x s e hw hv h1 h2
end
section
theorem Does.r {mk : Mk} {p c cv : Nat} {o : Option Nat} {rv : AV} {H : Heap} {r' : RunSt} {v : AV} {H' : Heap} (h : Does mk p c cv o rv H r' v H') (hn : NilOk rv) : DoesR mk p c cv o H r' v H' := by
 obtain ⟨h1, o', ov', h2, h3⟩ := h
 exact ⟨h1, o', rv, ov', h2, h3, hn⟩
theorem DoesR.pre {mk : Mk} {p c cv : Nat} {o : Option Nat} {H G : Heap} {r' : RunSt} {v : AV} {H' : Heap} (hk : Kept none H G) (h : DoesR mk p c cv o G r' v H') : DoesR mk p c cv o H r' v H' := by
 obtain ⟨h1, o', rv', ov', h2, h3, h4⟩ := h
 exact ⟨h1, o', rv', ov', h2, (Frame.of_kept hk).trans h3, h4⟩
def exitedS (x : Spec) (tm : Int) (n : Nat) (ch : Child) (cs : ChildState) (reason : Int) (r : RunSt) : RunSt := if cs.status = 1 then runningS x tm n ch reason r else stoppingS tm n ch r
theorem e39 (x : Spec) (tm : Int) (e : Event) {H : Heap} {p c cv : Nat} {o : Option Nat} {ov : AV} {r : RunSt} {s : Sl Int} (h : RunI (mkP x tm) H p c cv o (Sl.ints s) ov r) (hs : KnownNil s) (hsl : s.l = r.rs) (hrl : r.rs.length ≤ 100000) (hn : r.cs.length ≤ 1000) (hx : x.children.l.length = r.cs.length) (hstr : inR x.strategy 1 3 = true) (hl : r.out.length ≤ 100000) (n : Nat) (hk : n < r.cs.length) (he : e.child = n) (ch : Child) (hch : x.children.l[n]? = some ch) (cs : ChildState) (hcs : r.cs[n]? = some cs) :
  okV (evFun W fi60 [.optr p 0 0 0, e.av] H) (DoesR (mkP x tm) p c cv o H (exitedS x tm n ch cs e.value r)) := by
 have hK := Kept.append none H [.arr 0 4 false [e.av]]
 have k := h.kept hK
 have hp := k.hp
 have hc := k.hc
 have hcs' : r.cs[n] = cs := (gEs.1 hcs).2
 simp only [mkP] at hp
 unfold exitedS
 by_cases h1 : cs.status = 1
 ·rw [if_pos h1]
  obtain ⟨v, G, a0, a1⟩ := okV_iff.1 (e59 x tm k hs hsl hrl hn hx hstr hl n hk ch hch e.value)
  have hv := a1.1
  subst hv
  have cq59 : W.call (.clo 79 [] []) [.optr p 0 0 0, I n, I e.value] (H ++ [.arr 0 4 false [e.av]]) = some (.tuple [], G) := by rw [W_call Φ79]; exact a0
  have : okV (evFun W fi60 [.optr p 0 0 0, e.av] H) (fun v G' => v = .tuple [] ∧ G' = G) := by
   simp [fi60, c60, evFun, enterFr, intBin, resV, rvVs, rvV, hp, hc, he, hk, hcs', h1, cq59]
  obtain ⟨v, G', g1, rfl, rfl⟩ := okV_iff.1 this
  rw [g1]
  exact a1.pre hK
 ·rw [if_neg h1]
  obtain ⟨v, G, a0, a1⟩ := okV_iff.1 (e60 x tm k hn hl n hk ch hch)
  have hv := a1.1
  subst hv
  have cq60 : W.call (.clo 80 [] []) [.optr p 0 0 0, I n] (H ++ [.arr 0 4 false [e.av]]) = some (.tuple [], G) := by rw [W_call Φ80]; exact a0
  have : okV (evFun W fi60 [.optr p 0 0 0, e.av] H) (fun v G' => v = .tuple [] ∧ G' = G) := by
   simp [fi60, c60, evFun, enterFr, intBin, resV, rvVs, rvV, hp, hc, he, hk, hcs', h1, cq60]
  obtain ⟨v, G', g1, rfl, rfl⟩ := okV_iff.1 this
  rw [g1]
  exact (a1.r (NilOk.of hs)).pre hK
def askedS (tm : Int) (r : RunSt) : RunSt := if r.st = 3 then r else shutS tm r
theorem e40 (x : Spec) (tm : Int) (e : Event) {H : Heap} {p c cv : Nat} {o : Option Nat} {rv ov : AV} {r : RunSt} (h : RunI (mkP x tm) H p c cv o rv ov r) (hv : NilOk rv) (hn : r.cs.length ≤ 1000) (hl : r.out.length ≤ 100000) :
  okV (evFun W fi61 [.optr p 0 0 0, e.av] H) (DoesR (mkP x tm) p c cv o H (askedS tm r)) := by
 have hK := Kept.append none H [.arr 0 4 false [e.av]]
 have k := h.kept hK
 have hp := k.hp
 simp only [mkP] at hp
 unfold askedS
 by_cases h1 : r.st = 3
 ·rw [if_pos h1]
  have : okV (evFun W fi61 [.optr p 0 0 0, e.av] H) (fun v G' => v = .tuple [] ∧ G' = (H ++ [.arr 0 4 false [e.av]])) := by
   simp [fi61, c61, evFun, enterFr, intBin, resV, rvVs, rvV, hp, h1]
  obtain ⟨v, G', g1, rfl, rfl⟩ := okV_iff.1 this
  rw [g1]
  exact ⟨rfl, o, rv, ov, k, Frame.of_kept hK, hv⟩
 ·rw [if_neg h1]
  obtain ⟨v, G, a0, a1⟩ := okV_iff.1 (e61 x tm k hn (by omega))
  have hv := a1.1
  subst hv
  have cq61 : W.call (.clo 81 [] []) [.optr p 0 0 0] (H ++ [.arr 0 4 false [e.av]]) = some (.tuple [], G) := by rw [W_call Φ81]; exact a0
  have : okV (evFun W fi61 [.optr p 0 0 0, e.av] H) (fun v G' => v = .tuple [] ∧ G' = G) := by
   simp [fi61, c61, evFun, enterFr, intBin, resV, rvVs, rvV, hp, h1, cq61]
  obtain ⟨v, G', g1, rfl, rfl⟩ := okV_iff.1 this
  rw [g1]
  exact (a1.r hv).pre hK
theorem e38 (s : Sl ChildState) (hs : KnownNil s) (hl : s.l.length ≤ 1000000) (hz : s.l ≠ []) (H : Heap) :
  okV (evFun W fi59 [Sl.av ChildState.av 2 s] H) (fun v G => ∃ ver, v = .osl H.length ver 0 s.l.length ∧ G[H.length]? = some (.arr ver 2 false (s.l.map ChildState.av)) ∧ Kept none H G) := by
 obtain ⟨nl, z, l⟩ := s
 rcases hs with ⟨h1, h2⟩ | h1
 ·exact absurd h2 hz
 ·simp only at h1 hl hz
  subst h1
  have hK := Kept.append none H [.arr 0 2 false []]
  have hg : Grow (H ++ [.arr 0 2 false []]) 2 (some H.length) (.osl H.length 0 0 0) ([] : List AV) := grow_mk (l := []) (by simp)
  have hne : l.map ChildState.av ≠ [] := by simpa using hz
  have e0 : ex (H ++ [.arr 0 2 false []]) (.app 2) [.osl H.length 0 0 0, Sl.av ChildState.av 2 ⟨some false, z, l⟩] = some (.osl H.length l.length 0 l.length, H ++ [.arr l.length 2 false (l.map ChildState.av)]) := by
   have hlm : (l.map ChildState.av).length = l.length := by simp
   have hall := all_cell (f := ChildState.av) (fun x => by simp) l
   simp only [ex, sl_elems, hall, if_true]
   rw [← hlm]
   rw [← hlm] at hl
   generalize l.map ChildState.av = m at *
   cases m with
   | nil => exact absurd rfl hne
   | cons a m =>
    have ht : truncH (H ++ [.arr 0 2 false []]) (.osl H.length 0 0 0) = H ++ [.arr 0 2 false []] := by simp [truncH]
    rw [ht]
    have hg : (H ++ [Blk.arr 0 2 false []])[H.length]? = some (.arr 0 2 false []) := by simp
    have hsz : m.length + 1 ≤ 1073741824 := by simp at hl; omega
    simp [exApp, appRoom, hsz]
  simp [fi59, c59, evFun, enterFr, intBin, resV, rvVs, rvV, e0]
  exact Kept.append none H _
end
section
def runOf (s : State) : RunSt := ⟨s.status, s.children.l, s.restarts.l, s.failed, []⟩
def handleR (x : Spec) (s : State) (e : Event) : RunSt :=
 if e.kind = 1 then (match x.children.l[e.child.toNat]?, s.children.l[e.child.toNat]? with
  | some ch, some cs => exitedS x e.time e.child.toNat ch cs e.value (runOf s)
  | _, _ => runOf s)
 else askedS e.time (runOf s)
def handleE (x : Spec) (s : State) (e : Event) : Int := if validB x s = true then checkN x s e else 1
structure StOk (t : State) (r : RunSt) : Prop where
 st : t.status = r.st
 cs : t.children.l = r.cs
 rs : t.restarts.l = r.rs
 fl : t.failed = r.fl
 k1 : KnownNil t.children
 k2 : KnownNil t.restarts
abbrev zeroState : State := ⟨0, slNil, slNil, false⟩
def HandleOk (nv : AV) (x : Spec) (s : State) (e : Event) (v : AV) : Prop :=
 if handleE x s e = 0 then ∃ (t : State) (a : Sl Event), v = .tuple [t.av, Sl.av Event.av 4 a, I 0] ∧ StOk t (handleR x s e) ∧ a.l = (handleR x s e).out
 else v = .tuple [zeroState.av, nv, I (handleE x s e)]
theorem valid_facts {x : Spec} {s : State} (h : validB x s = true) : chk x = 0 ∧ s.children.l.length = x.children.l.length ∧ (s.restarts.l.length : Int) ≤ x.intensity ∧ s.children.l.all childOk = true ∧ fitsB x s = true ∧ timesB s.restarts.l x.window = true := by
 simp only [validB, childrenB, Bool.and_eq_true, decide_eq_true_eq] at h
 obtain ⟨⟨⟨h1, ⟨h2, h3⟩, h4⟩, h5, h6⟩, h7⟩ := h
 exact ⟨h1, h2, h6, h3, h4, h5⟩
theorem check_facts {x : Spec} {s : State} {e : Event} (h : checkN x s e = 0) : (e.kind = 1 ∧ inR e.child 0 ((x.children.l.length : Int) - 1) = true ∧ reasonB e.value = true ∨ e.kind = 2 ∧ e.child = -1 ∧ e.value = 0) ∧ inR e.time 0 1099511627776 = true ∧ staleB s e = false ∧ deadB s e = false := by
 unfold checkN at h
 split at h
 ·cases h
 ·rename_i hk
  split at h
  ·cases h
  ·rename_i hm
   split at h
   ·cases h
   ·rename_i hs
    split at h
    ·cases h
    ·rename_i hd
     have hm' : malB x e = false := by simpa using hm
     refine ⟨?_, ?_, by simpa using hs, by simpa using hd⟩
     ·by_cases h1 : e.kind = 1
      ·simp [malB, h1] at hm'
       exact .inl ⟨h1, hm'.1.1, hm'.1.2⟩
      ·have h2 : e.kind = 2 := by
        by_cases h2 : e.kind = 2
        ·exact h2
        ·exact absurd ⟨h1, h2⟩ hk
       simp [malB, h2] at hm'
       exact .inr ⟨h2, hm'.1.1, hm'.1.2⟩
     ·by_cases h1 : e.kind = 1
      ·simp [malB, h1] at hm'; exact hm'.2
      ·simp [malB, h1] at hm'; exact hm'.2
theorem RunI.frz {mk : Mk} {H : Heap} {p c cv : Nat} {o : Option Nat} {rv ov : AV} {r : RunSt} (h : RunI mk H p c cv o rv ov r) (hn : NilOk rv) :
  ∃ (t : State) (a : Sl Event), Go.Proofs.YtjknjapdcphcfaaGreat.frz H 8 (.tuple [.agg [I r.st, .osl c cv 0 r.cs.length, rv, .bool r.fl], ov, I 0]) = some (.tuple [t.av, Sl.av Event.av 4 a, I 0]) ∧ StOk t r ∧ a.l = r.out := by
 obtain ⟨s, h1, h2, h3⟩ := h.rs.frzK hn 5
 have ho := h.out.sl (n := 6) (all_still (fun x => by simp) _)
 have hc : Go.Proofs.YtjknjapdcphcfaaGreat.frz H 6 (.osl c cv 0 r.cs.length) = some (.isl (some false) 2 (r.cs.map ChildState.av)) := frz_full (n := 5) h.hc (by simp) (all_still (fun x => by simp) _)
 refine ⟨⟨r.st, ofL 2 r.cs, s, r.fl⟩, if o = none then slNil else ofL 4 r.out, ?_, ⟨rfl, rfl, h2, rfl, .inr rfl, h3⟩, ?_⟩
 ·simp only [frz_tuple, frzs_cons, frzs_nil, frz_agg, frz_int, frz_bool, h1, hc, ho, consO_some, Option.map_some]
  rw [isl_sl]
  rfl
 ·cases o with
  | none => have := h.out.2; simp at this; simp [this]
  | some i => rfl
theorem start13 (x : Spec) (s : State) (e : Event) (H : Heap) (h4 : H.length = 4) (hne : s.children.l ≠ []) (cv : Nat) {G : Heap} (hG : G[5]? = some (.arr cv 2 false (s.children.l.map ChildState.av))) (hK : Kept none (H ++ [.arr 0 10 false [mkP x e.time s.status (Sl.av ChildState.av 2 s.children) (Sl.ints s.restarts) s.failed (.isl (some true) 0 [])]]) G) (b : Blk) :
  RunI (mkP x e.time) (G.set 4 (.arr 0 10 false [mkP x e.time s.status (.osl 5 cv 0 s.children.l.length) (Sl.ints s.restarts) s.failed (.isl (some true) 0 [])]) ++ [b]) 4 5 cv none (Sl.ints s.restarts) (.isl (some true) 0 []) (runOf s) := by
 have h5 := (gEs.1 hG).1
 refine ⟨?_, ?_, .inl ⟨_, rfl, rfl⟩, grow_nil _ _, by decide, by simp, by simp⟩
 ·rw [gEa (by simp; omega), gEt (by omega)]; rfl
 ·rw [gEa (by simp; omega), gEn (by decide)]; exact hG
@[simp] theorem setZ (a b c d : AV) : setElem [zeroState.av] 0 0 (.agg [a, b, c, d]) = some [.agg [a, b, c, d]] := rfl
@[simp] theorem apart_oo (i a b c i' a' b' c' : Nat) : apart (.optr i a b c) (.optr i' a' b' c') = (i != i') := rfl
@[simp high] theorem bld13 (x : Spec) (s : State) (tm : Int) : bldV [.int .i64 0, .isl (some true) 0 [], .isl (some true) 0 [], .bool false, .int .i64 0, .int .i64 0, .int .i64 0, .isl (some true) 0 [], .int .i64 0, .isl (some true) 0 []] [(0, 4), (4, 4), (8, 1)] [s.av, x.av, I tm] = mkP x tm s.status (Sl.av ChildState.av 2 s.children) (Sl.ints s.restarts) s.failed (.isl (some true) 0 []) := rfl
@[simp high] theorem bld14 (x : Spec) (s : State) (tm : Int) : bldV [.int .i64 0, .int .i64 0, .int .i64 0, .isl (some true) 0 [], .int .i64 0, .isl (some true) 0 [], .isl (some true) 0 [], .bool false, .int .i64 0, .isl (some true) 0 []] [(0, 4), (4, 4), (8, 1)] [x.av, s.av, I tm] = mkR x tm s.status (Sl.av ChildState.av 2 s.children) (Sl.ints s.restarts) s.failed (.isl (some true) 0 []) := rfl
theorem end13 {mk : Mk} {H G : Heap} {cv : Nat} {o' : Option Nat} {rv ov : AV} {r : RunSt} (h : RunI mk G 4 5 cv o' rv ov r) (hn : NilOk rv) (hf : Frame 4 5 none o' H G) (hl : 4 ≤ H.length) {z : AV} (h3 : H[3]? = some (.arr 0 4 false [z])) (y : AV) :
  G[3]? = some (.arr 0 4 false [z]) ∧ ∃ (t : State) (a : Sl Event), Go.Proofs.YtjknjapdcphcfaaGreat.frz (G.set 3 (.arr 0 4 false [y])) 8 (.tuple [.agg [I r.st, .osl 5 cv 0 r.cs.length, rv, .bool r.fl], ov, I 0]) = some (.tuple [t.av, Sl.av Event.av 4 a, I 0]) ∧ StOk t r ∧ a.l = r.out := by
 have g3 := hf.get h3 (by decide) (by decide) (by simp)
 refine ⟨g3, ?_⟩
 have hk := Kept.set 3 G (.arr 0 4 false [y])
 refine (h.keptQ hk (fun i hi => ?_) (fun i ver off len e hi => ?_)).frz hn
 ·cases hi
  refine ⟨by decide, by decide, fun e => ?_⟩
  rcases hf.new 3 e with h1 | h1
  ·cases h1
  ·omega
 ·cases hi
  rcases h.rs with ⟨s, h1, _⟩ | ⟨q, ⟨ver', t, h1, h2⟩, _⟩
  ·rw [e] at h1; cases h1
  ·rw [e] at h1; cases h1
   rw [g3] at h2; cases h2
theorem e13 (x : Spec) (s : State) (e : Event) (hn : ∀ c ∈ x.children.l, c.name.length ≤ 1000000) (hx : x.children.l.length ≤ 1000000) (hl : s.children.l.length ≤ 1000000) (hr : s.restarts.l.length ≤ 1000000) (hk1 : KnownNil s.children) (hk2 : KnownNil s.restarts) :
  ∃ v, W.pure 36 [x.av, s.av, e.av] = some v ∧ HandleOk (.isl (some true) 0 []) x s e v := by
 have h15 := e15 x hn hx s hl hr
 unfold HandleOk
 by_cases hv : validB x s = true
 ·rw [if_pos hv] at h15
  obtain ⟨hc0, hcl, hri, hco, hfi, hti⟩ := valid_facts hv
  have hlen := chk_len hc0
  have hck := chk_ok hc0
  have hint : x.intensity ≤ 100 := by have := hck.2.1; simp [inR] at this; exact this.2
  have h37 : W.pure 58 [x.av, s.av, e.av] = some (I (checkN x s e)) := by
   rw [W_pure Φ58 (by simp)]
   obtain ⟨G, g1⟩ := e37 x s e hcl.symm (by omega) hr
   rw [g1]; rfl
  have hE : handleE x s e = checkN x s e := by unfold handleE; rw [if_pos hv]
  rw [hE]
  by_cases hc : checkN x s e = 0
  ·simp only [if_pos hc]
   rw [hc] at h37
   obtain ⟨hkind, htime, _, hdead⟩ := check_facts hc
   have hne : s.children.l ≠ [] := by intro e; rw [e] at hcl; simp at hcl; omega
   -- the children's states, cloned
   obtain ⟨v, G, a0, cv, rfl, a1, a2⟩ := okV_iff.1 (e38 s.children hk1 hl hne [.arr 0 4 false [x.av], .arr 0 4 false [s.av], .arr 0 4 false [e.av], .arr 0 4 false [zeroState.av], .arr 0 10 false [mkP x e.time s.status (Sl.av ChildState.av 2 s.children) (Sl.ints s.restarts) s.failed (.isl (some true) 0 [])]])
   simp only [List.length_cons, List.length_nil, Nat.zero_add, Nat.reduceAdd] at a0 a1
   have cq38 : W.call (.clo 59 [] []) [Sl.av ChildState.av 2 s.children] [.arr 0 4 false [x.av], .arr 0 4 false [s.av], .arr 0 4 false [e.av], .arr 0 4 false [zeroState.av], .arr 0 10 false [mkP x e.time s.status (Sl.av ChildState.av 2 s.children) (Sl.ints s.restarts) s.failed (.isl (some true) 0 [])]] = some (.osl 5 cv 0 s.children.l.length, G) := by rw [W_call Φ59]; exact a0
   have g2 := a2.get (j := 2) (by simp) rfl
   have g3 := a2.get (j := 3) (by simp) rfl
   have g4 := a2.get (j := 4) (by simp) rfl
   have hGl := (gEs.1 a1).1
   have hz : (.agg [I 0, .isl (some true) 0 [], .isl (some true) 0 [], .bool false] : AV) = zeroState.av := rfl
   have R0 := start13 x s e [.arr 0 4 false [x.av], .arr 0 4 false [s.av], .arr 0 4 false [e.av], .arr 0 4 false [zeroState.av]] rfl hne cv a1 (by exact a2)
   simp only [mkP] at cq38 g4 R0
   have gs : ∀ y : Blk, (G.set 4 y)[4]? = some y := fun y => gEt (by omega)
   have gm : ∀ y b : Blk, (G.set 4 y ++ [b])[2]? = some (.arr 0 4 false [e.av]) := fun y b => by rw [gEa (by simp; omega), gEn (by decide)]; exact g2
   have hlm : ∀ (A : Heap) (b c : Blk), (A ++ [b]).set A.length c = A ++ [c] := fun A b c => by simp
   rcases hkind with ⟨h1, hin, hrs⟩ | ⟨h2, hch, hval⟩
   ·have R1 := R0 (.mp [(I 1, .clo 60 [.optr 4 0 0 0] []), (I 2, .clo 61 [.optr 4 0 0 0] [])])
    have hin' : 0 ≤ e.child ∧ e.child ≤ (x.children.l.length : Int) - 1 := by simpa [inR] using hin
    have hcl1 : e.child.toNat < x.children.l.length := by omega
    have hcl2 : e.child.toNat < s.children.l.length := by omega
    have hch := gEg hcl1
    have hcs := gEg hcl2
    have hR : handleR x s e = exitedS x e.time e.child.toNat x.children.l[e.child.toNat] s.children.l[e.child.toNat] e.value (runOf s) := by unfold handleR; rw [if_pos h1]; simp only [hch, hcs]
    rw [hR]
    obtain ⟨v, G2, b0, rfl, o', rv', ov', b1, b2, b3⟩ := okV_iff.1 (e39 x e.time e R1 hk2 rfl (by show s.restarts.l.length ≤ 100000; omega) (by show s.children.l.length ≤ 1000; omega) hcl.symm hck.1 (by show (0 : Nat) ≤ 100000; omega) e.child.toNat hcl2 (by omega) _ hch _ hcs)
    generalize exitedS x e.time e.child.toNat x.children.l[e.child.toNat] s.children.l[e.child.toNat] e.value (runOf s) = S at *
    obtain ⟨d1, t, a, d2, d3, d4⟩ := end13 b1 b3 b2 (z := zeroState.av) (by simp; omega) (by rw [gEa (by simp; omega), gEn (by decide)]; exact g3) (.agg [I S.st, .osl 5 cv 0 S.cs.length, rv', .bool S.fl])
    have cq39 := (W_call Φ60 [.optr 4 0 0 0] [e.av] [] _).trans b0
    have hp2 := b1.hp
    have hov := b1.out.okO
    have hrv := b1.rs.ok
    have hG2l := (gEs.1 d1).1
    have gz : ∀ y : Blk, (G2.set 3 y)[3]? = some y := fun y => gEt hG2l
    simp only [mkP] at hp2 cq39
    refine ⟨_, ?_, t, a, rfl, d3, d4⟩
    rw [W_pure Φ36 (by simp), ← d2]
    simp [fi36, c36, evFun, enterFr, intBin, resV, rvVs, rvV, h15, h37, cq38, g2, g3, g4, gs, gm, h1, hlm, cq39, d1, hp2, hov, hrv.1, hrv.2.2.1, gz, hz, mkP, findK, eqCell]
   ·have R1 := R0 (.mp [(I 1, .clo 60 [.optr 4 0 0 0] []), (I 2, .clo 61 [.optr 4 0 0 0] [])])
    have hR : handleR x s e = askedS e.time (runOf s) := by unfold handleR; rw [if_neg (by omega)]
    rw [hR]
    obtain ⟨v, G2, b0, rfl, o', rv', ov', b1, b2, b3⟩ := okV_iff.1 (e40 x e.time e R1 (NilOk.of hk2) (by show s.children.l.length ≤ 1000; omega) (by show (0 : Nat) ≤ 100000; omega))
    obtain ⟨d1, t, a, d2, d3, d4⟩ := end13 b1 b3 b2 (z := zeroState.av) (by simp; omega) (by rw [gEa (by simp; omega), gEn (by decide)]; exact g3) (.agg [I (askedS e.time (runOf s)).st, .osl 5 cv 0 (askedS e.time (runOf s)).cs.length, rv', .bool (askedS e.time (runOf s)).fl])
    have cq40 := (W_call Φ61 [.optr 4 0 0 0] [e.av] [] _).trans b0
    have hp2 := b1.hp
    have hov := b1.out.okO
    have hrv := b1.rs.ok
    have hG2l := (gEs.1 d1).1
    have gz : ∀ y : Blk, (G2.set 3 y)[3]? = some y := fun y => gEt hG2l
    simp only [mkP] at hp2 cq40
    refine ⟨_, ?_, t, a, rfl, d3, d4⟩
    rw [W_pure Φ36 (by simp), ← d2]
    simp [fi36, c36, evFun, enterFr, intBin, resV, rvVs, rvV, h15, h37, cq38, g2, g3, g4, gs, gm, h2, hlm, cq40, d1, hp2, hov, hrv.1, hrv.2.2.1, gz, hz, mkP, findK, eqCell]
  ·simp only [if_neg hc]
   refine ⟨_, ?_, rfl⟩
   rw [W_pure Φ36 (by simp)]
   simp [fi36, c36, evFun, enterFr, intBin, resV, rvVs, rvV, h15, h37, hc]
   rfl
 ·have hE : handleE x s e = 1 := by unfold handleE; rw [if_neg hv]
  rw [if_neg hv] at h15
  rw [hE]
  refine ⟨_, ?_, rfl⟩
  rw [W_pure Φ36 (by simp)]
  simp [fi36, c36, evFun, enterFr, intBin, resV, rvVs, rvV, h15]
  rfl
end
section
attribute [local irreducible] okV okC
theorem e41' (x : Spec) (s : State) (e : Event) (hl : s.children.l.length ≤ 1000000) (hr : s.restarts.l.length ≤ 1000000) : W.pure 68 [x.av, s.av, e.av] = some (I (handleE x s e)) := by
 have h16 := e16 x s hl hr
 rw [W_pure Φ68 (by simp)]
 unfold handleE
 by_cases hv : validB x s = true
 ·obtain ⟨hc0, hcl, hri, hco, hfi, hti⟩ := valid_facts hv
  have hlen := chk_len hc0
  rw [if_pos hv] at h16
  obtain ⟨G, g1⟩ := e41 x s e hcl.symm (by omega) hr h16
  rw [g1, if_pos hv]; rfl
 ·rw [if_neg hv] at h16 ⊢
  simp [fi68, c68, evFun, enterFr, intBin, resV, rvVs, rvV, h16]
theorem app14 (s : Sl ChildState) (hl : s.l.length ≤ 1000000) (hne : s.l ≠ []) (A : Heap) : ex (A ++ [.arr 0 2 false []]) (.app 2) [.osl A.length 0 0 0, Sl.av ChildState.av 2 s] = some (.osl A.length s.l.length 0 s.l.length, A ++ [.arr s.l.length 2 false (s.l.map ChildState.av)]) := by
 have hall := all_cell (f := ChildState.av) (fun x => by simp) s.l
 have hlm : (s.l.map ChildState.av).length = s.l.length := by simp
 have hne' : s.l.map ChildState.av ≠ [] := by simpa using hne
 simp only [ex, sl_elems, hall, if_true]
 rw [← hlm]
 rw [← hlm] at hl
 generalize s.l.map ChildState.av = m at *
 cases m with
 | nil => exact absurd rfl hne'
 | cons a m =>
  have ht : truncH (A ++ [.arr 0 2 false []]) (.osl A.length 0 0 0) = A ++ [.arr 0 2 false []] := by simp [truncH]
  rw [ht]
  have hg : (A ++ [Blk.arr 0 2 false []])[A.length]? = some (.arr 0 2 false []) := by simp
  have hsz : m.length + 1 ≤ 1073741824 := by simp at hl; omega
  simp [exApp, appRoom, hsz]
theorem e14 (x : Spec) (s : State) (e : Event) (hx : x.children.l.length ≤ 1000000) (hl : s.children.l.length ≤ 1000000) (hr : s.restarts.l.length ≤ 1000000) (hk1 : KnownNil s.children) (hk2 : KnownNil s.restarts) :
  ∃ v, W.pure 44 [x.av, s.av, e.av] = some v ∧ HandleOk (.isl (some false) 4 []) x s e v := by
 have h41 := e41' x s e hl hr
 unfold HandleOk
 have hz : (.agg [I 0, .isl (some true) 0 [], .isl (some true) 0 [], .bool false] : AV) = zeroState.av := rfl
 by_cases h0 : handleE x s e = 0
 ·have hv : validB x s = true := by
   unfold handleE at h0; split at h0
   ·assumption
   ·cases h0
  have hc : checkN x s e = 0 := by unfold handleE at h0; rwa [if_pos hv] at h0
  simp only [if_pos h0]
  rw [h0] at h41
  obtain ⟨hc0, hcl, hri, hco, hfi, hti⟩ := valid_facts hv
  have hlen := chk_len hc0
  have hck := chk_ok hc0
  have hint : x.intensity ≤ 100 := by have := hck.2.1; simp [inR] at this; exact this.2
  obtain ⟨hkind, htime, _, hdead⟩ := check_facts hc
  have hne : s.children.l ≠ [] := by intro e; rw [e] at hcl; simp at hcl; omega
  have happ := app14 s.children hl hne [.arr 0 4 false [x.av], .arr 0 4 false [s.av], .arr 0 4 false [e.av], .arr 0 4 false [zeroState.av], .arr 0 10 false [mkR x e.time s.status (Sl.av ChildState.av 2 s.children) (Sl.ints s.restarts) s.failed (.isl (some true) 0 [])]]
  simp only [List.length_cons, List.length_nil, Nat.zero_add, Nat.reduceAdd, List.cons_append, List.nil_append] at happ
  have R1 : RunI (mkR x e.time) [.arr 0 4 false [x.av], .arr 0 4 false [s.av], .arr 0 4 false [e.av], .arr 0 4 false [zeroState.av], .arr 0 10 false [mkR x e.time s.status (.osl 5 s.children.l.length 0 s.children.l.length) (Sl.ints s.restarts) s.failed (.isl (some true) 0 [])], .arr s.children.l.length 2 false (s.children.l.map ChildState.av)] 4 5 s.children.l.length none (Sl.ints s.restarts) (.isl (some true) 0 []) (runOf s) := ⟨rfl, rfl, .inl ⟨_, rfl, rfl⟩, grow_nil _ _, by decide, by simp, by simp⟩
  have key : ∀ S : RunSt, handleR x s e = S → okV (evFun W fi44 [x.av, s.av, e.av] []) (fun v G => ∃ (t : State) (a : Sl Event), Go.Proofs.YtjknjapdcphcfaaGreat.frz G 8 v = some (.tuple [t.av, Sl.av Event.av 4 a, I 0]) ∧ StOk t S ∧ a.l = S.out) := by
   intro S hS
   rcases hkind with ⟨h1, hin, hrs⟩ | ⟨h2, hch, hval⟩
   ·have hin' : 0 ≤ e.child ∧ e.child ≤ (x.children.l.length : Int) - 1 := by simpa [inR] using hin
    have hcl1 : e.child.toNat < x.children.l.length := by omega
    have hcl2 : e.child.toNat < s.children.l.length := by omega
    have hch := gEg hcl1
    have hcs := gEg hcl2
    have hce : e.child = ((e.child.toNat : Nat) : Int) := by omega
    have hR : S = exitedS x e.time e.child.toNat x.children.l[e.child.toNat] s.children.l[e.child.toNat] e.value (runOf s) := by rw [← hS]; unfold handleR; rw [if_pos h1]; simp only [hch, hcs]
    unfold exitedS at hR
    have haff : affAll x e.child.toNat = affL x e.child.toNat := by
     unfold affAll fitB
     rw [if_pos]
     simp only [hc0, decide_true, Bool.true_and, ← hce]
     exact hin
    by_cases h3 : s.children.l[e.child.toNat].status = 1
    ·rw [if_pos h3] at hR
     obtain ⟨v, G2, b0, b⟩ := okV_iff.1 (e43 x e.time R1 hk2 rfl (by show (s.restarts.l.length : Int) ≤ x.intensity; exact hri) (by show s.restarts.l.length ≤ 100000; omega) (by show s.children.l.length ≤ 1000; omega) hcl.symm e.child.toNat haff (by show (0 : Nat) ≤ 100000; omega) hcl2 _ hch e.value)
     obtain ⟨rfl, o', rv', ov', b1, b2, b3⟩ := b
     rw [← hR] at b1
     obtain ⟨d1, t, a, d2, d3, d4⟩ := end13 b1 b3 b2 (z := zeroState.av) (by simp) rfl (.agg [I S.st, .osl 5 s.children.l.length 0 S.cs.length, rv', .bool S.fl])
     have cq43 := (W_call Φ70 [] [.optr 4 0 0 0, I e.child.toNat, I e.value] [] _).trans b0
     have hp2 := b1.hp
     have hov := b1.out.okO
     have hrv := b1.rs.ok
     have hG2l := (gEs.1 d1).1
     have gz : ∀ y : Blk, (G2.set 3 y)[3]? = some y := fun y => gEt hG2l
     rw [← hce] at cq43
     simp only [mkR] at hp2 cq43 happ
     simp [fi44, c44, evFun, enterFr, intBin, resV, rvVs, rvV, h41, h1, h3, hin'.1, hcl2, happ, cq43, d1, hp2, hov, hrv.1, hrv.2.2.1, gz, hz, mkR, -frz_tuple]
     exact ⟨t, a, d2, d3, d4⟩
    ·rw [if_neg h3] at hR
     obtain ⟨v, G2, b0, b⟩ := okV_iff.1 (e44 x e.time R1 (by show s.children.l.length ≤ 1000; omega) (by show (0 : Nat) ≤ 100000; omega) e.child.toNat hcl2 _ hch)
     obtain ⟨rfl, o', ov', b1, b2⟩ := b
     rw [← hR] at b1
     obtain ⟨d1, t, a, d2, d3, d4⟩ := end13 b1 (NilOk.of hk2) b2 (z := zeroState.av) (by simp) rfl (.agg [I S.st, .osl 5 s.children.l.length 0 S.cs.length, Sl.ints s.restarts, .bool S.fl])
     have cq44 := (W_call Φ71 [] [.optr 4 0 0 0, I e.child.toNat] [] _).trans b0
     have hp2 := b1.hp
     have hov := b1.out.okO
     have hG2l := (gEs.1 d1).1
     have gz : ∀ y : Blk, (G2.set 3 y)[3]? = some y := fun y => gEt hG2l
     rw [← hce] at cq44
     simp only [mkR] at hp2 cq44 happ
     simp [fi44, c44, evFun, enterFr, intBin, resV, rvVs, rvV, h41, h1, h3, hin'.1, hcl2, happ, cq44, d1, hp2, hov, gz, hz, mkR, -frz_tuple]
     exact ⟨t, a, d2, d3, d4⟩
   ·have hR : S = askedS e.time (runOf s) := by rw [← hS]; unfold handleR; rw [if_neg (by omega)]
    unfold askedS at hR
    by_cases h3 : s.status = 3
    ·rw [if_pos (show (runOf s).st = 3 from h3)] at hR
     rw [hR]
     obtain ⟨d1, t, a, d2, d3, d4⟩ := end13 R1 (NilOk.of hk2) (Frame.refl _ _ _ _) (z := zeroState.av) (by simp) rfl (.agg [I s.status, .osl 5 s.children.l.length 0 s.children.l.length, Sl.ints s.restarts, .bool s.failed])
     simp only [List.set_cons_succ, List.set_cons_zero, runOf, mkR] at d2
     simp only [mkR, h3] at happ
     simp [fi44, c44, evFun, enterFr, intBin, resV, rvVs, rvV, h41, h2, h3, happ, hz, mkR, -frz_tuple]
     rw [h3] at d2
     exact ⟨t, a, d2, d3, d4⟩
    ·rw [if_neg (show ¬ (runOf s).st = 3 from h3)] at hR
     obtain ⟨v, G2, b0, rfl, o', ov', b1, b2⟩ := okV_iff.1 (e42 x e.time R1 (by show s.children.l.length ≤ 1000; omega) (by show (0 : Nat) ≤ 800000; omega))
     rw [← hR] at b1
     obtain ⟨d1, t, a, d2, d3, d4⟩ := end13 b1 (NilOk.of hk2) b2 (z := zeroState.av) (by simp) rfl (.agg [I S.st, .osl 5 s.children.l.length 0 S.cs.length, Sl.ints s.restarts, .bool S.fl])
     have cq42 := (W_call Φ69 [] [.optr 4 0 0 0] [] _).trans b0
     have hp2 := b1.hp
     have hov := b1.out.okO
     have hG2l := (gEs.1 d1).1
     have gz : ∀ y : Blk, (G2.set 3 y)[3]? = some y := fun y => gEt hG2l
     simp only [mkR] at hp2 cq42 happ
     simp [fi44, c44, evFun, enterFr, intBin, resV, rvVs, rvV, h41, h2, h3, happ, cq42, d1, hp2, hov, gz, hz, mkR, -frz_tuple]
     exact ⟨t, a, d2, d3, d4⟩
  obtain ⟨v, G, g1, t, a, g2, g3, g4⟩ := okV_iff.1 (key _ rfl)
  refine ⟨_, ?_, t, a, rfl, g3, g4⟩
  rw [W_pure Φ44 (by simp), g1]
  exact g2
 ·simp only [if_neg h0]
  refine ⟨_, ?_, rfl⟩
  rw [W_pure Φ44 (by simp)]
  simp [fi44, c44, evFun, enterFr, intBin, resV, rvVs, rvV, h41, h0]
  rfl
end
section
theorem great_false {x : Spec} (h : greatB x = false) : x.children.l.length ≤ 18 ∧ ∀ c ∈ x.children.l, c.name.length ≤ 40 := by
 simp only [greatB, Bool.or_eq_false_iff, decide_eq_false_iff_not] at h
 refine ⟨by omega, fun c hc => ?_⟩
 have := List.any_eq_false.1 h.2 c hc
 simp at this
 omega
theorem StOk.same {t t' : State} {r : RunSt} (h : StOk t r) (h' : StOk t' r) : sameS t t' = true := by
 simp only [sameS, h.st, h'.st, h.cs, h'.cs, h.rs, h'.rs, h.fl, h'.fl, decide_true, Bool.and_self]
structure Size (n a : Nat) (r r' : RunSt) : Prop where
 cs : r'.cs.length = r.cs.length
 rs : r'.rs.length ≤ r.rs.length + n
 out : r'.out.length ≤ r.out.length + a
theorem Size.refl (r : RunSt) : Size 0 0 r r := ⟨rfl, by omega, by omega⟩
theorem Size.trans {n a m b : Nat} {r s t : RunSt} (h : Size n a r s) (h' : Size m b s t) : Size (n + m) (a + b) r t := ⟨h'.cs.trans h.cs, by have := h.rs; have := h'.rs; omega, by have := h.out; have := h'.out; omega⟩
theorem Size.weak {n a m b : Nat} {r s : RunSt} (h : Size n a r s) (h1 : n ≤ m) (h2 : a ≤ b) : Size m b r s := ⟨h.cs, by have := h.rs; omega, by have := h.out; omega⟩
theorem size_setS (r : RunSt) (k : Nat) (st : Int) : Size 0 0 r (r.setS k st) := ⟨setS_len _ _ _, by unfold RunSt.setS; split <;> simp, by rw [setS_out]; omega⟩
theorem size_stopped (r : RunSt) (tm : Int) : Size 0 1 r (r.stopped tm) := by
 unfold RunSt.stopped; split
 ·exact ⟨rfl, by simp [RunSt.act], by simp [RunSt.act]⟩
 ·exact ⟨rfl, by simp, by simp⟩
theorem size_fold {α : Type} (f : RunSt → α → RunSt) (a : Nat) (hf : ∀ s x, Size 0 a s (f s x)) : ∀ (l : List α) (s : RunSt), Size 0 (l.length * a) s (l.foldl f s) := by
 intro l
 induction l with
 | nil => intro s; exact (Size.refl s).weak (by omega) (by omega)
 | cons x l ih =>
  intro s
  refine ((hf s x).trans (ih (f s x))).weak (by omega) ?_
  rw [List.length_cons, Nat.succ_mul]; omega
theorem size_again1 (tm : Int) (k : Nat) (s : RunSt) : Size 0 1 s (stepAgain tm k s) := by
 unfold stepAgain; split
 ·split
  ·exact ⟨by simp [RunSt.act], by simp [RunSt.act], by simp [RunSt.act]⟩
  ·exact (Size.refl s).weak (by omega) (by omega)
 ·exact (Size.refl s).weak (by omega) (by omega)
theorem size_again (tm : Int) (r : RunSt) : Size 0 r.cs.length r (againS tm r) := by
 have := size_fold (fun (s : RunSt) (a : ChildState × Nat) => stepAgain tm a.2 s) 1 (fun s a => size_again1 tm a.2 s) r.cs.zipIdx r
 rw [List.length_zipIdx, Nat.mul_one] at this
 exact ⟨this.cs, this.rs, this.out⟩
theorem size_stop1 (tm i : Int) (s : RunSt) : Size 0 1 s (stepStop tm i s) := by
 unfold stepStop; split
 ·split
  ·exact ⟨by simp [RunSt.act], by simp [RunSt.act], by simp [RunSt.act]⟩
  ·exact (Size.refl s).weak (by omega) (by omega)
 ·exact (Size.refl s).weak (by omega) (by omega)
theorem size_stop (tm : Int) (l : List Int) (r : RunSt) : Size 0 l.length r (stopS tm l r) := by
 have := size_fold (fun (s : RunSt) (i : Int) => stepStop tm i s) 1 (fun s a => size_stop1 tm a s) l.reverse r
 rw [List.length_reverse, Nat.mul_one, List.foldl_reverse] at this
 exact this
theorem size_hold (r : RunSt) : Size 0 0 r (holdS r) := by
 have := size_fold (fun (s : RunSt) (a : ChildState × Nat) => stepShut a.2 s) 0 (fun s a => by
  unfold stepShut; split
  ·split
   ·exact size_setS _ _ _
   ·exact Size.refl s
  ·exact Size.refl s) r.cs.zipIdx r
 rw [Nat.mul_zero] at this
 exact this
theorem size_shut (tm : Int) (r : RunSt) : Size 0 (r.cs.length + 1) r (shutS tm r) := by
 have h := (size_hold r).trans (size_stop tm (idxs r.cs.length) (holdS r))
 rw [idxs_len] at h
 unfold shutS; split
 ·exact ⟨h.cs, h.rs, by have := h.out; simp only at this ⊢; omega⟩
 ·exact (h.trans (size_stopped _ tm)).weak (by omega) (by omega)
theorem size_running (x : Spec) (tm : Int) (n : Nat) (ch : Child) (reason : Int) (r : RunSt) : Size 1 (x.children.l.length + r.cs.length + 2) r (runningS x tm n ch reason r) := by
 have hrec := recentL_len x tm r.rs
 have hal := affL_len x n
 have h0 : Size 1 0 r ({ r with rs := recentL x tm r.rs ++ [tm] } : RunSt) := ⟨rfl, by simp; omega, by simp⟩
 have h1 := (h0.trans (size_setS _ n 4)).trans (size_stop tm (affL x n) _)
 unfold runningS; split
 ·exact (size_setS _ _ _).weak (by omega) (by omega)
 ·split
  ·have h2 : Size 0 0 r ({ r.setS n 3 with fl := true } : RunSt) := by have := size_setS r n 3; exact ⟨this.cs, this.rs, this.out⟩
   have h3 := h2.trans (size_shut tm _)
   have := h2.cs
   exact h3.weak (by omega) (by omega)
  ·split
   ·have h3 := h1.trans (size_again tm _)
    have := h1.cs
    exact h3.weak (by omega) (by omega)
   ·refine Size.weak (n := 1) (a := 0 + 0 + (affL x n).length) ⟨h1.cs, ?_, h1.out⟩ (by omega) (by omega)
    have := h1.rs
    simp only at this ⊢
    omega
theorem size_stopping (tm : Int) (n : Nat) (ch : Child) (r : RunSt) : Size 0 (r.cs.length + 1) r (stoppingS tm n ch r) := by
 have h0 : Size 0 0 r (stopping1 n ch r) := size_setS _ _ _
 unfold stoppingS; split
 ·exact h0.weak (by omega) (by omega)
 ·split
  ·have := h0.cs; exact (h0.trans (size_again tm _)).weak (by omega) (by omega)
  ·exact (h0.trans (size_stopped _ tm)).weak (by omega) (by omega)
theorem size_handle (x : Spec) (s : State) (e : Event) : Size 1 (x.children.l.length + s.children.l.length + 2) (runOf s) (handleR x s e) := by
 unfold handleR; split
 ·split
  ·unfold exitedS; split
   ·exact size_running x e.time e.child.toNat _ e.value (runOf s)
   ·exact (size_stopping _ _ _ _).weak (by omega) (by show s.children.l.length + 1 ≤ _; omega)
  ·exact (Size.refl _).weak (by omega) (by omega)
 ·unfold askedS; split
  ·exact (Size.refl _).weak (by omega) (by omega)
  ·exact (size_shut _ _).weak (by omega) (by show s.children.l.length + 1 ≤ _; omega)
def State.core (s : State) : Int × List ChildState × List Int × Bool := (s.status, s.children.l, s.restarts.l, s.failed)
theorem core_same {s t : State} (h : s.core = t.core) : sameS s t = true := by
 simp only [State.core, Prod.mk.injEq] at h
 obtain ⟨h1, h2, h3, h4⟩ := h
 simp only [sameS, h1, h2, h3, h4, decide_true, Bool.and_self]
end
section
theorem core_inj {s t : State} (h : s.core = t.core) : s.status = t.status ∧ s.children.l = t.children.l ∧ s.restarts.l = t.restarts.l ∧ s.failed = t.failed := by
 simpa [State.core] using h
theorem runOf_core {s t : State} (h : s.core = t.core) : runOf s = runOf t := by
 obtain ⟨h1, h2, h3, h4⟩ := core_inj h
 simp only [runOf, h1, h2, h3, h4]
theorem handleR_core {x : Spec} {s t : State} {e : Event} (h : s.core = t.core) : handleR x s e = handleR x t e := by
 obtain ⟨h1, h2, h3, h4⟩ := core_inj h
 simp only [handleR, runOf_core h, h2]
theorem handleE_core {x : Spec} {s t : State} {e : Event} (h : s.core = t.core) : handleE x s e = handleE x t e := by
 obtain ⟨h1, h2, h3, h4⟩ := core_inj h
 have a1 : fitsB x s = fitsB x t := by simp only [fitsB, h1, h2]
 have a2 : validB x s = validB x t := by simp only [validB, childrenB, endedB, a1, h1, h2, h3, h4]
 have a3 : staleB s e = staleB t e := by unfold staleB; rw [h3]
 have a4 : deadB s e = deadB t e := by unfold deadB; rw [h1, h2]
 simp only [handleE, a2, checkN, a3, a4]
def mkS (r : RunSt) : State := ⟨r.st, ofL 2 r.cs, ofL 1 r.rs, r.fl⟩
theorem StOk.core {t : State} {r : RunSt} (h : StOk t r) : t.core = (mkS r).core := by
 simp only [State.core, h.st, h.cs, h.rs, h.fl, mkS]
def startS (x : Spec) : State := ⟨1, ofL 2 (List.replicate x.children.l.length start1), slNil, false⟩
def Cur (H : Heap) (b : Nat) (o : Option Nat) (sv : AV) (s : State) : Prop :=
 KnownNil s.children ∧ KnownNil s.restarts ∧ (sv = s.av ∨ ∃ q ver t sh, sv = .agg [I s.status, .osl q ver 0 s.children.l.length, Sl.ints s.restarts, .bool s.failed] ∧ s.children.nl = some false ∧ s.children.z = 2 ∧ H[q]? = some (.arr ver 2 sh (s.children.l.map ChildState.av ++ t)) ∧ 2 ≤ q ∧ q < b ∧ o ≠ some q)
theorem all_map_still (l : List ChildState) (t : List AV) : (((l.map ChildState.av ++ t).drop 0).take l.length).all (fun e => e.cells.all AV.still) = true ∧ ((l.map ChildState.av ++ t).drop 0).take l.length = l.map ChildState.av := by
 have h : ((l.map ChildState.av ++ t).drop 0).take l.length = l.map ChildState.av := by
  rw [List.drop_zero, List.take_append_of_le_length (by simp)]
  rw [List.take_of_length_le (by simp)]
 rw [h]
 exact ⟨all_still (fun x => by simp) _, rfl⟩
theorem sl_false {s : Sl ChildState} (h : s.nl = some false) (hz : s.z = 2) : (.isl (some false) 2 (s.l.map ChildState.av) : AV) = Sl.av ChildState.av 2 s := by
 obtain ⟨nl, z, l⟩ := s
 simp only at h hz
 subst h hz
 cases l <;> rfl
theorem Cur.pub {H : Heap} {b : Nat} {o : Option Nat} {sv : AV} {s : State} (h : Cur H b o sv s) : ∃ H', pubA H sv = (s.av, H') ∧ H'.length = H.length ∧ ∀ j, j < 2 ∨ b ≤ j ∨ o = some j → H'[j]? = H[j]? := by
 obtain ⟨h1, h2, rfl | ⟨q, ver, t, sh, rfl, h3, hz, h4, h5, h6, h7⟩⟩ := h
 ·exact ⟨H, rfl, rfl, fun _ _ => rfl⟩
 ·obtain ⟨k1, k2⟩ := all_map_still s.children.l t
  refine ⟨H.set q (.arr ver 2 true (s.children.l.map ChildState.av ++ t)), ?_, by simp, fun j hj => ?_⟩
  ·simp only [pubA, pubs1, pub1, h4]
   rw [if_pos ⟨trivial, by simp, k1⟩, k2, sl_false h3 hz]
   rfl
  ·rw [gEn]
   rintro rfl
   rcases hj with hj | hj | hj
   ·omega
   ·omega
   ·exact h7 hj
theorem Cur.frz {H : Heap} {b : Nat} {o : Option Nat} {sv : AV} {s : State} (h : Cur H b o sv s) (n : Nat) : Go.Proofs.YtjknjapdcphcfaaGreat.frz H (n + 2) sv = some s.av := by
 obtain ⟨h1, h2, rfl | ⟨q, ver, t, sh, rfl, h3, hz, h4, h5, h6, h7⟩⟩ := h
 ·exact State_frz n
 ·obtain ⟨k1, k2⟩ := all_map_still s.children.l t
  have : Go.Proofs.YtjknjapdcphcfaaGreat.frz H (n + 1) (.osl q ver 0 s.children.l.length) = some (Sl.av ChildState.av 2 s.children) := by
   simp only [Go.Proofs.YtjknjapdcphcfaaGreat.frz, h4]
   rw [if_pos ⟨trivial, by simp⟩, if_pos k1, k2, sl_false h3 hz]
  simp only [frz_agg, frzs_cons, frzs_nil, frz_int, frz_bool, this, consO_some, Option.map_some]
  rfl
theorem Cur.ok {H : Heap} {b : Nat} {o : Option Nat} {sv : AV} {s : State} (h : Cur H b o sv s) : okO sv = some sv ∧ sv.cells.length = 4 ∧ sv.cells.all AV.cell = true ∧ ldCells true 4 sv.cells = sv ∧ setElem [zeroState.av] 0 0 sv = some [sv] := by
 obtain ⟨h1, h2, rfl | ⟨q, ver, t, sh, rfl, h3, hz, h4, h5, h6, h7⟩⟩ := h
 ·exact ⟨rfl, rfl, rfl, rfl, rfl⟩
 ·exact ⟨rfl, rfl, rfl, rfl, rfl⟩
theorem Cur.kept {H H' : Heap} {b : Nat} {o o' : Option Nat} {sv : AV} {s : State} (h : Cur H b o sv s) (hk : ∀ q, q < b → o ≠ some q → H'[q]? = H[q]?) (ho : ∀ q, q < b → o' = some q → o = some q) : Cur H' b o' sv s := by
 obtain ⟨h1, h2, rfl | ⟨q, ver, t, sh, rfl, h3, hz, h4, h5, h6, h7⟩⟩ := h
 ·exact ⟨h1, h2, .inl rfl⟩
 ·exact ⟨h1, h2, .inr ⟨q, ver, t, sh, rfl, h3, hz, by rw [hk q h6 h7]; exact h4, h5, h6, fun e => h7 (ho q h6 e)⟩⟩
theorem Cur.state (H : Heap) (b : Nat) (o : Option Nat) {s : State} (h1 : KnownNil s.children) (h2 : KnownNil s.restarts) : Cur H b o s.av s := ⟨h1, h2, .inl rfl⟩
theorem Cur.cases {H : Heap} {b : Nat} {o : Option Nat} {sv : AV} {s : State} (h : Cur H b o sv s) : ∃ a1 a2 a3 a4, sv = .agg [a1, a2, a3, a4] ∧ a1.cell = true ∧ a2.cell = true ∧ a3.cell = true ∧ a4.cell = true := by
 obtain ⟨h1, h2, rfl | ⟨q, ver, t, sh, rfl, h3, hz, h4, h5, h6, h7⟩⟩ := h
 ·exact ⟨_, _, _, _, rfl, rfl, rfl, rfl, rfl⟩
 ·exact ⟨_, _, _, _, rfl, rfl, rfl, rfl, rfl⟩
@[simp] theorem pub_spec (H : Heap) (x : Spec) : pubA H x.av = (x.av, H) := rfl
@[simp] theorem pub_event (H : Heap) (x : Event) : pubA H x.av = (x.av, H) := rfl
structure RunP (x : Spec) (b : Nat) (k : Nat) (s : State × List Event) (sv ov : AV) (G : Heap) : Prop where
 g0 : G[0]? = some (.arr 0 4 false [x.av])
 g1 : G[1]? = some (.arr 0 4 false [zeroState.av])
 gb : G[b]? = some (.arr 0 4 false [sv])
 b2 : 2 ≤ b
 ex : ∃ o s', Cur G b o sv s' ∧ s'.core = s.1.core ∧ Grow G 4 o ov (s.2.map Event.av) ∧ o ≠ some b ∧ ∀ i, o = some i → 2 ≤ i
 len : s.1.children.l.length = x.children.l.length
 rs : s.1.restarts.l.length ≤ k
 out : s.2.length ≤ x.children.l.length + k * (2 * x.children.l.length + 2)
theorem RunP.pub {x : Spec} {b k : Nat} {s : State × List Event} {sv ov : AV} {G GA : Heap} (h : RunP x b k s sv ov G) (hA : Kept none G GA) :
  ∃ (s' : State) (G1 : Heap), pubA GA sv = (s'.av, G1) ∧ s'.core = s.1.core ∧ KnownNil s'.children ∧ KnownNil s'.restarts ∧ G1.length = GA.length ∧ (∀ j, j < 2 ∨ b ≤ j → G1[j]? = GA[j]?) ∧ ∃ o, Grow G1 4 o ov (s.2.map Event.av) ∧ o ≠ some b ∧ ∀ i, o = some i → 2 ≤ i := by
 obtain ⟨o, s', h1, h2, h3, h4, h5⟩ := h.ex
 have h1' : Cur GA b o sv s' := h1.kept (fun q hq _ => by
  have hb := (gEs.1 h.gb).1
  rw [hA.2 q (by simp) (by omega)]) (fun q _ e => e)
 obtain ⟨G1, p1, p2, p3⟩ := h1'.pub
 refine ⟨s', G1, p1, h2, h1.1, h1.2.1, p2, fun j hj => p3 j (by rcases hj with hj | hj; exact .inl hj; exact .inr (.inl hj)), o, ?_, h4, h5⟩
 have h6 := h3.kept hA (by simp)
 cases o with
 | none => exact h6
 | some i =>
  obtain ⟨ver, t, g1, g2⟩ := h6
  exact ⟨ver, t, g1, by rw [p3 i (.inr (.inr rfl))]; exact g2⟩
end
section
attribute [local irreducible] okV okC
theorem run_end {x : Spec} {b k : Nat} {s : State × List Event} {sv ov : AV} {G : Heap} (h : RunP x b k s sv ov G) (n : Int) :
  ∃ (t : State) (a : Sl Event), Go.Proofs.YtjknjapdcphcfaaGreat.frz (G.set 1 (.arr 0 4 false [sv])) 8 (.tuple [sv, ov, I n, I 0]) = some (.tuple [t.av, Sl.av Event.av 4 a, I n, I 0]) ∧ t.core = s.1.core ∧ a.l = s.2 := by
 obtain ⟨o, s', h1, h2, h3, h4, h5⟩ := h.ex
 have hk := Kept.set 1 G (.arr 0 4 false [sv])
 have c1 : Cur (G.set 1 (.arr 0 4 false [sv])) b o sv s' := by
  obtain ⟨a1, a2, rfl | ⟨q, ver, t, sh, rfl, b1, b2, b3, b4, b5, b6⟩⟩ := h1
  ·exact ⟨a1, a2, .inl rfl⟩
  ·exact ⟨a1, a2, .inr ⟨q, ver, t, sh, rfl, b1, b2, hk.get (by simp; omega) b3, b4, b5, b6⟩⟩
 have g1 := h3.kept hk (fun id hid e => by cases hid; have := h5 1 e; omega)
 have f1 := c1.frz 5
 have f2 := g1.sl (n := 6) (all_still (fun x => by simp) _)
 refine ⟨s', if o = none then slNil else ofL 4 s.2, ?_, h2, ?_⟩
 ·simp only [frz_tuple, frzs_cons, frzs_nil, frz_int, f1, f2, consO_some, Option.map_some]
 ·cases o with
  | none => have := g1.2; simp at this; rw [this]; rfl
  | some i => rfl
theorem Cur.st {H : Heap} {b : Nat} {o : Option Nat} {sv : AV} {s : State} (h : Cur H b o sv s) (t : State) : setElem [sv] 0 0 t.av = some [t.av] := by
 obtain ⟨h1, h2, rfl | ⟨q, ver, t', sh, rfl, h3, hz, h4, h5, h6, h7⟩⟩ := h
 ·rfl
 ·rfl
end
section
attribute [local irreducible] okV okC
end
section
def ChildState.to (c : ChildState) (st : Int) : ChildState := { c with status := st }
@[simp] theorem to_status (c : ChildState) (st : Int) : (c.to st).status = st := rfl
@[simp] theorem to_starts (c : ChildState) (st : Int) : (c.to st).starts = c.starts := rfl
theorem setS_at (r : RunSt) (k : Nat) (st : Int) (i : Nat) : (r.setS k st).cs[i]? = r.cs[i]?.map fun c => if i = k then c.to st else c := by
 unfold RunSt.setS
 cases hk : r.cs[k]? with
 | none =>
  simp only
  by_cases h : i = k
  ·subst h; rw [hk]; rfl
  ·simp only [if_neg h, Option.map_id_fun', id]
 | some c =>
  simp only
  by_cases h : i = k
  ·subst h
   rw [gEt (gEs.1 hk).1, hk]
   simp [ChildState.to]
  ·rw [gEn (fun e => h e.symm)]
   simp only [if_neg h, Option.map_id_fun', id]
theorem setS_rs (r : RunSt) (k : Nat) (st : Int) : (r.setS k st).rs = r.rs := by unfold RunSt.setS; split <;> rfl
theorem map_at {α β : Type} {o : Option α} {f : α → β} {y : β} (h : o.map f = some y) : ∃ x, o = some x ∧ f x = y := by
 cases o with
 | none => cases h
 | some x => exact ⟨x, rfl, by simpa using h⟩
theorem fold_at (step : Nat → RunSt → RunSt) (f : ChildState → ChildState) (hs : ∀ k s i, (step k s).cs[i]? = s.cs[i]?.map fun c => if i = k then f c else c) : ∀ (l : List ChildState) (j : Nat) (s : RunSt) (i : Nat), ((l.zipIdx j).foldl (fun s a => step a.2 s) s).cs[i]? = s.cs[i]?.map fun c => if j ≤ i ∧ i < j + l.length then f c else c := by
 intro l
 induction l with
 | nil => intro j s i; simp [show ¬ (j ≤ i ∧ i < j) by omega]
 | cons a l ih =>
  intro j s i
  simp only [List.zipIdx_cons, List.foldl_cons, List.length_cons]
  rw [ih, hs, Option.map_map]
  congr 1
  funext c
  simp only [Function.comp]
  by_cases h1 : i = j
  ·subst h1
   rw [if_pos rfl, if_neg (by omega), if_pos (by omega)]
  ·rw [if_neg h1]
   by_cases h2 : j + 1 ≤ i ∧ i < j + 1 + l.length
   ·rw [if_pos h2, if_pos (by omega)]
   ·rw [if_neg h2, if_neg (by omega)]
theorem at_lt {l : List ChildState} {i : Nat} {f : ChildState → ChildState} : (l[i]?.map fun c => if 0 ≤ i ∧ i < 0 + l.length then f c else c) = l[i]?.map f := by
 cases h : l[i]? with
 | none => rfl
 | some c =>
  have := (gEs.1 h).1
  simp [this]
def again1 (c : ChildState) : ChildState := if c.status = 4 then ⟨1, IntKind.wrap .i64 (c.starts + 1)⟩ else c
def hold1 (c : ChildState) : ChildState := if c.status = 4 then c.to 3 else c
theorem stepAgain_at (tm : Int) (k : Nat) (s : RunSt) (i : Nat) : (stepAgain tm k s).cs[i]? = s.cs[i]?.map fun c => if i = k then again1 c else c := by
 unfold stepAgain
 cases hk : s.cs[k]? with
 | none =>
  simp only
  by_cases h : i = k
  ·subst h; rw [hk]; rfl
  ·simp only [if_neg h, Option.map_id_fun', id]
 | some c =>
  simp only
  by_cases h4 : c.status = 4
  ·rw [if_pos h4]
   simp only [RunSt.act]
   by_cases h : i = k
   ·subst h
    rw [gEt (gEs.1 hk).1, hk]
    simp [again1, h4]
   ·rw [gEn (fun e => h e.symm)]
    simp only [if_neg h, Option.map_id_fun', id]
  ·rw [if_neg h4]
   by_cases h : i = k
   ·subst h; rw [hk]; simp [again1, h4]
   ·simp only [if_neg h, Option.map_id_fun', id]
theorem stepShut_at (k : Nat) (s : RunSt) (i : Nat) : (stepShut k s).cs[i]? = s.cs[i]?.map fun c => if i = k then hold1 c else c := by
 unfold stepShut
 cases hk : s.cs[k]? with
 | none =>
  simp only
  by_cases h : i = k
  ·subst h; rw [hk]; rfl
  ·simp only [if_neg h, Option.map_id_fun', id]
 | some c =>
  simp only
  by_cases h4 : c.status = 4
  ·rw [if_pos h4, setS_at]
   by_cases h : i = k
   ·subst h; rw [hk]; simp [hold1, h4]
   ·simp only [if_neg h]
  ·rw [if_neg h4]
   by_cases h : i = k
   ·subst h; rw [hk]; simp [hold1, h4]
   ·simp only [if_neg h, Option.map_id_fun', id]
theorem againS_at (tm : Int) (r : RunSt) (i : Nat) : (againS tm r).cs[i]? = r.cs[i]?.map again1 := by
 unfold againS
 simp only
 rw [fold_at (stepAgain tm) again1 (stepAgain_at tm), at_lt]
theorem holdS_at (r : RunSt) (i : Nat) : (holdS r).cs[i]? = r.cs[i]?.map hold1 := by
 unfold holdS
 rw [fold_at stepShut hold1 stepShut_at, at_lt]
def stop1 (l : List Int) (i : Nat) (c : ChildState) : ChildState := if (i : Int) ∈ l ∧ c.status = 1 then c.to 2 else c
theorem stopS_at (tm : Int) : ∀ (l : List Int) (r : RunSt) (hl : ∀ a ∈ l, 0 ≤ a) (i : Nat), (stopS tm l r).cs[i]? = r.cs[i]?.map (stop1 l i) := by
 intro l
 induction l with
 | nil =>
  intro r hl i
  have : stop1 [] i = id := by funext c; simp [stop1]
  rw [this]; simp [stopS]
 | cons a l ih =>
  intro r hl i
  have ih' := ih r (fun b hb => hl b (by simp [hb]))
  have ha := hl a (by simp)
  show (stepStop tm a (stopS tm l r)).cs[i]? = _
  unfold stepStop
  cases hk : (stopS tm l r).cs[a.toNat]? with
  | none =>
   simp only
   rw [ih']
   cases hi : r.cs[i]? with
   | none => rfl
   | some c =>
    have hne : (i : Int) ≠ a := by
     rintro rfl
     rw [ih'] at hk
     simp [hi] at hk
    simp [stop1, hne]
  | some c =>
   simp only
   by_cases h1 : c.status = 1
   ·rw [if_pos h1]
    simp only [RunSt.act]
    by_cases h : i = a.toNat
    ·subst h
     rw [gEt (gEs.1 hk).1]
     rw [ih'] at hk
     obtain ⟨c0, h2, h3⟩ := map_at hk
     rw [h2]
     have hm : ((a.toNat : Nat) : Int) = a := by omega
     unfold stop1 at h3
     rw [hm] at h3
     split at h3
     ·rename_i h4
      rw [← h3] at h1
      simp at h1
     ·subst h3
      simp [stop1, hm, h1, ChildState.to]
    ·rw [gEn (fun e => h e.symm), ih']
     have hne : (i : Int) ≠ a := by omega
     congr 1
     funext c
     simp [stop1, hne]
   ·rw [if_neg h1, ih']
    cases hi : r.cs[i]? with
    | none => rfl
    | some c0 =>
     by_cases h : i = a.toNat
     ·subst h
      rw [ih', hi] at hk
      simp only [Option.map_some, Option.some.injEq] at hk ⊢
      have hm : ((a.toNat : Nat) : Int) = a := by omega
      rw [← hk] at h1
      unfold stop1 at h1 ⊢
      rw [hm] at h1 ⊢
      by_cases h5 : c0.status = 1
      ·by_cases h6 : a ∈ l
       ·simp [h5, h6]
       ·simp [h5, h6] at h1
      ·simp [h5]
     ·have hne : (i : Int) ≠ a := by omega
      simp [stop1, hne]
theorem fold_st (step : Nat → RunSt → RunSt) (g : RunSt → Int × List Int × Bool) (hs : ∀ k s, g (step k s) = g s) : ∀ (l : List (ChildState × Nat)) (s : RunSt), g (l.foldl (fun s a => step a.2 s) s) = g s := by
 intro l
 induction l with
 | nil => intro s; rfl
 | cons a l ih => intro s; rw [List.foldl_cons, ih, hs]
def RunSt.rest (r : RunSt) : Int × List Int × Bool := (r.st, r.rs, r.fl)
theorem setS_rest (r : RunSt) (k : Nat) (st : Int) : (r.setS k st).rest = r.rest := by unfold RunSt.setS; split <;> rfl
theorem stepAgain_rest (tm : Int) (k : Nat) (s : RunSt) : (stepAgain tm k s).rest = s.rest := by
 unfold stepAgain; split
 ·split <;> rfl
 ·rfl
theorem stepShut_rest (k : Nat) (s : RunSt) : (stepShut k s).rest = s.rest := by
 unfold stepShut; split
 ·split
  ·exact setS_rest _ _ _
  ·rfl
 ·rfl
theorem stepStop_rest (tm i : Int) (s : RunSt) : (stepStop tm i s).rest = s.rest := by
 unfold stepStop; split
 ·split <;> rfl
 ·rfl
theorem holdS_rest (r : RunSt) : (holdS r).rest = r.rest := fold_st stepShut RunSt.rest stepShut_rest _ _
theorem stopS_rest (tm : Int) (l : List Int) (r : RunSt) : (stopS tm l r).rest = r.rest := by
 induction l with
 | nil => rfl
 | cons a l ih => show (stepStop tm a (stopS tm l r)).rest = _; rw [stepStop_rest, ih]
theorem againS_rest (tm : Int) (r : RunSt) : (againS tm r).st = 1 ∧ (againS tm r).rs = r.rs ∧ (againS tm r).fl = r.fl := by
 have := fold_st (stepAgain tm) RunSt.rest (stepAgain_rest tm) r.cs.zipIdx r
 simp only [RunSt.rest, Prod.mk.injEq] at this
 exact ⟨rfl, this.2.1, this.2.2⟩
theorem stopped_rest (tm : Int) (r : RunSt) : (r.stopped tm).st = 4 ∧ (r.stopped tm).rs = r.rs ∧ (r.stopped tm).fl = r.fl ∧ (r.stopped tm).cs = r.cs ∧ (r.stopped tm).out = r.out ++ (if r.fl = true then [⟨5, -1, 0, tm⟩] else []) := by
 unfold RunSt.stopped
 split
 ·simp [RunSt.act]
 ·simp
def Has (l : List ChildState) (st : Int) : Prop := ∃ (i : Nat) (c : ChildState), l[i]? = some c ∧ c.status = st
theorem cnt_pos {l : List ChildState} {st : Int} : 0 < cnt l st ↔ Has l st := by
 unfold cnt Has
 rw [List.length_pos_iff_exists_mem]
 constructor
 ·rintro ⟨c, hc⟩
  obtain ⟨h1, h2⟩ := List.mem_filter.1 hc
  obtain ⟨i, hi⟩ := List.getElem?_of_mem h1
  exact ⟨i, c, hi, by simpa using h2⟩
 ·rintro ⟨i, c, h1, h2⟩
  exact ⟨c, List.mem_filter.2 ⟨List.mem_of_getElem? h1, by simpa using h2⟩⟩
theorem cnt_zero {l : List ChildState} {st : Int} : cnt l st = 0 ↔ ¬ Has l st := by
 rw [← cnt_pos]; omega
end
section
def againOut (tm : Int) (cs : List ChildState) (j : Nat) : List Event := (cs.zipIdx j).filterMap fun a => if a.1.status = 4 then some ⟨3, a.2, 0, tm⟩ else none
theorem again_out (tm : Int) : ∀ (l : List ChildState) (j : Nat) (s : RunSt), (∀ i c, l[i]? = some c → s.cs[j + i]? = some c) → ((l.zipIdx j).foldl (fun s a => stepAgain tm a.2 s) s).out = s.out ++ againOut tm l j := by
 intro l
 induction l with
 | nil => intro j s h; simp [againOut]
 | cons a l ih =>
  intro j s h
  have h0 := h 0 a rfl
  simp only [Nat.add_zero] at h0
  simp only [List.zipIdx_cons, List.foldl_cons, againOut, List.filterMap_cons]
  rw [ih]
  ·unfold stepAgain
   rw [h0]
   simp only
   by_cases h4 : a.status = 4
   ·simp [h4, RunSt.act, againOut]
   ·simp [h4, againOut]
  ·intro i c hc
   have := h (i + 1) c (by simpa using hc)
   rw [stepAgain_at, show j + 1 + i = j + (i + 1) by omega, this]
   simp
theorem againS_out (tm : Int) (r : RunSt) : (againS tm r).out = r.out ++ againOut tm r.cs 0 := by
 unfold againS
 exact again_out tm r.cs 0 r (fun i c h => by simpa using h)
theorem fold_out (step : Nat → RunSt → RunSt) (hs : ∀ k s, (step k s).out = s.out) : ∀ (l : List (ChildState × Nat)) (s : RunSt), (l.foldl (fun s a => step a.2 s) s).out = s.out := by
 intro l
 induction l with
 | nil => intro s; rfl
 | cons a l ih => intro s; rw [List.foldl_cons, ih, hs]
theorem holdS_out (r : RunSt) : (holdS r).out = r.out := fold_out stepShut (fun k s => by
 unfold stepShut; split
 ·split
  ·exact setS_out _ _ _
  ·rfl
 ·rfl) _ _
def stopEv (tm : Int) (cs : List ChildState) (a : Int) : Option Event := match cs[a.toNat]? with | some c => if c.status = 1 then some ⟨4, a, 0, tm⟩ else none | none => none
def stopOut (tm : Int) (cs : List ChildState) (l : List Int) : List Event := l.reverse.filterMap (stopEv tm cs)
theorem stopS_out' (tm : Int) : ∀ (l : List Int) (r : RunSt) (hl : ∀ a ∈ l, 0 ≤ a) (hd : l.Nodup), (stopS tm l r).out = r.out ++ stopOut tm r.cs l := by
 intro l
 induction l with
 | nil => intro r _ _; simp [stopS, stopOut]
 | cons a l ih =>
  intro r hl hd
  have ih' := ih r (fun b hb => hl b (by simp [hb])) (List.nodup_cons.1 hd).2
  have hnot := (List.nodup_cons.1 hd).1
  have ha := hl a (by simp)
  have hat := stopS_at tm l r (fun b hb => hl b (by simp [hb])) a.toNat
  have hm : ((a.toNat : Nat) : Int) = a := by omega
  show (stepStop tm a (stopS tm l r)).out = _
  have hso : stopOut tm r.cs (a :: l) = stopOut tm r.cs l ++ (stopEv tm r.cs a).toList := by
   simp only [stopOut, List.reverse_cons, List.filterMap_append, List.filterMap_cons, List.filterMap_nil]
   cases stopEv tm r.cs a <;> rfl
  rw [hso, ← List.append_assoc, ← ih']
  unfold stepStop stopEv
  cases hc : r.cs[a.toNat]? with
  | none => rw [hat, hc]; simp
  | some c =>
   rw [hat, hc]
   simp only [Option.map_some]
   have : stop1 l a.toNat c = c := by
    unfold stop1
    rw [hm, if_neg (fun h => hnot h.1)]
   rw [this]
   by_cases h1 : c.status = 1
   ·simp [h1, RunSt.act]
   ·simp [h1]
theorem affF_sorted (s child : Int) : ∀ (n i : Nat), (affF s child n i).Pairwise (· < ·) := by
 intro n
 induction n with
 | zero => intro i; exact List.Pairwise.nil
 | succ n ih =>
  intro i
  unfold affF
  split
  ·refine List.Pairwise.cons (fun j hj => ?_) (ih (i + 1))
   have := affF_in s child n (i + 1) j hj
   omega
  ·exact ih (i + 1)
theorem affF_mem (s child : Int) : ∀ (n i : Nat) (j : Nat), (j : Int) ∈ affF s child n i ↔ i ≤ j ∧ j < i + n ∧ affP s child j = true := by
 intro n
 induction n with
 | zero => intro i j; simp [affF]; omega
 | succ n ih =>
  intro i j
  unfold affF
  split
  ·rename_i h
   rw [List.mem_cons, ih]
   constructor
   ·rintro (h1 | ⟨h1, h2, h3⟩)
    ·have : j = i := by omega
     subst this; exact ⟨by omega, by omega, h⟩
    ·exact ⟨by omega, by omega, h3⟩
   ·rintro ⟨h1, h2, h3⟩
    by_cases h4 : j = i
    ·subst h4; exact .inl rfl
    ·exact .inr ⟨by omega, by omega, h3⟩
  ·rename_i h
   rw [ih]
   constructor
   ·rintro ⟨h1, h2, h3⟩; exact ⟨by omega, by omega, h3⟩
   ·rintro ⟨h1, h2, h3⟩
    by_cases h4 : j = i
    ·subst h4; exact absurd h3 h
    ·exact ⟨by omega, by omega, h3⟩
theorem affL_nodup (x : Spec) (child : Int) : (affL x child).Nodup := (affF_sorted _ _ _ _).imp fun h => by omega
theorem affL_nn (x : Spec) (child : Int) : ∀ a ∈ affL x child, 0 ≤ a := fun a h => (affL_in x child a h).1
theorem idxs_nn (n : Nat) : ∀ a ∈ idxs n, 0 ≤ a := fun a h => (idxs_in h).1
theorem idxs_mem (n j : Nat) : (j : Int) ∈ idxs n ↔ j < n := by
 simp only [idxs, List.mem_map, List.mem_range]
 constructor
 ·rintro ⟨k, h1, h2⟩; omega
 ·intro h; exact ⟨j, h, rfl⟩
theorem idxs_sorted (n : Nat) : (idxs n).Pairwise (· < ·) := by
 unfold idxs
 rw [List.pairwise_map]
 exact List.pairwise_lt_range.imp fun h => by omega
theorem idxs_nodup (n : Nat) : (idxs n).Nodup := (idxs_sorted n).imp fun h => by omega
end
section
def Fit (x : Spec) (st : Int) (cs : List ChildState) : Prop :=
 (st = 1 ∧ ¬ Has cs 2 ∧ ¬ Has cs 4) ∨ (st = 2 ∧ x.strategy ≠ 1 ∧ Has cs 2 ∧ Has cs 4) ∨ (st = 3 ∧ Has cs 2 ∧ ¬ Has cs 1 ∧ ¬ Has cs 4) ∨ (st = 4 ∧ ¬ Has cs 1 ∧ ¬ Has cs 2 ∧ ¬ Has cs 4)
theorem fits_iff {x : Spec} {s : State} : fitsB x s = true ↔ Fit x s.status s.children.l := by
 unfold fitsB Fit
 simp only [← cnt_pos]
 by_cases h1 : s.status = 1
 ·simp [h1]
 ·by_cases h2 : s.status = 2
  ·simp [h1, h2, and_assoc]
  ·by_cases h3 : s.status = 3
   ·simp [h1, h2, h3, and_assoc]
   ·simp [h1, h2, h3, and_assoc]
def TimesP (l : List Int) (win : Int) : Prop := l.Pairwise (· ≤ ·) ∧ ∀ t ∈ l, 0 ≤ t ∧ t ≤ 1099511627776 ∧ lastI l - win < t
theorem times_iff {l : List Int} {win : Int} (hw : 1 ≤ win ∧ win ≤ 1099511627776) : timesB l win = true ↔ TimesP l win := by
 have step : timesB l win = true ↔ ∀ j t, l[j]? = some t → badTime l win j t = false := by
  unfold timesB
  rcases foldE_unit (timeStep l win) l 0 with ⟨g1, g2⟩ | ⟨j, a, y, g1, g2, g3, g4⟩
  ·rw [g1]
   simp only [true_iff]
   intro j t hj
   have := g2 j t hj
   unfold timeStep at this
   split at this
   ·cases this
   ·have h9 : ¬ badTime l win (0 + j) t = true := ‹_›
    rw [Nat.zero_add] at h9
    simpa using h9
  ·rw [g3]
   simp only [Bool.false_eq_true, false_iff]
   intro h
   have := h j a g1
   unfold timeStep at g2
   rw [Nat.zero_add, this] at g2
   simp at g2
 rw [step]
 have hlast : ∀ t, t ∈ l → lastI l ∈ l := by
  intro t ht
  have hl : 0 < l.length := List.length_pos_of_mem ht
  unfold lastI
  rw [gEd, gEg (by omega)]
  exact List.getElem_mem _
 constructor
 ·intro h
  have hb : ∀ t ∈ l, 0 ≤ t ∧ t ≤ 1099511627776 := by
   intro t ht
   obtain ⟨j, hj⟩ := List.getElem?_of_mem ht
   have := h j t hj
   simp [badTime, inR] at this
   omega
  refine ⟨?_, fun t ht => ?_⟩
  ·rw [List.pairwise_iff_getElem]
   have adj : ∀ (j : Nat) (hj : j + 1 < l.length), l[j]'(by omega) ≤ l[j + 1] := by
    intro j hj
    have := h (j + 1) l[j + 1] (gEg hj)
    have hg : l.getD j 0 = l[j]'(by omega) := by rw [gEd, gEg (by omega)]; rfl
    simp only [badTime, Bool.or_eq_false_iff, Bool.and_eq_false_iff, decide_eq_false_iff_not, Nat.add_sub_cancel] at this
    rw [hg] at this
    omega
   intro i j hi hj hij
   induction j with
   | zero => omega
   | succ j ih =>
    by_cases h1 : i = j
    ·subst h1; exact adj i hj
    ·exact Int.le_trans (ih (by omega) (by omega)) (adj j hj)
  ·obtain ⟨j, hj⟩ := List.getElem?_of_mem ht
   have h1 := hb t ht
   have h2 := hb _ (hlast t ht)
   have := h j t hj
   rw [badTime, wrap64 (by omega) (by omega)] at this
   simp at this
   omega
 ·rintro ⟨h1, h2⟩ j t hj
  have ht := List.mem_of_getElem? hj
  have h3 := h2 t ht
  have h4 := h2 _ (hlast t ht)
  rw [badTime, wrap64 (by omega) (by omega)]
  have h5 : 0 < j → l.getD (j - 1) 0 ≤ t := by
   intro h0
   obtain ⟨hlt, rfl⟩ := gEs.1 hj
   rw [gEd, gEg (by omega)]
   exact List.pairwise_iff_getElem.1 h1 (j - 1) j (by omega) hlt (by omega)
  simp only [inR, Bool.or_eq_false_iff, Bool.and_eq_false_iff, decide_eq_false_iff_not, Bool.not_eq_false', Bool.and_eq_true, decide_eq_true_eq]
  refine ⟨⟨by omega, ?_⟩, by omega⟩
  by_cases h0 : 0 < j
  ·right; have := h5 h0; omega
  ·left; exact h0
structure Inv (x : Spec) (m : Int) (r : RunSt) : Prop where
 len : r.cs.length = x.children.l.length
 ok : ∀ (i : Nat) (c : ChildState), r.cs[i]? = some c → 1 ≤ c.status ∧ c.status ≤ 4 ∧ 1 ≤ c.starts ∧ c.starts ≤ m
 fit : Fit x r.st r.cs
 times : TimesP r.rs x.window
 few : (r.rs.length : Int) ≤ x.intensity
 fl : r.fl = true → r.st = 3 ∨ r.st = 4
theorem win_of {x : Spec} (h0 : chk x = 0) : 1 ≤ x.window ∧ x.window ≤ 1099511627776 := by
 have := (chk_ok h0).2.2.1
 simpa [inR] using this
structure Inv0 (x : Spec) (m : Int) (r : RunSt) : Prop where
 len : r.cs.length = x.children.l.length
 ok : ∀ (i : Nat) (c : ChildState), r.cs[i]? = some c → 1 ≤ c.status ∧ c.status ≤ 4 ∧ 1 ≤ c.starts ∧ c.starts ≤ m
 times : TimesP r.rs x.window
 few : (r.rs.length : Int) ≤ x.intensity
theorem Inv.zero {x : Spec} {m : Int} {r : RunSt} (h : Inv x m r) : Inv0 x m r := ⟨h.len, h.ok, h.times, h.few⟩
theorem shut_at (tm : Int) (r : RunSt) (i : Nat) : (stopS tm (idxs r.cs.length) (holdS r)).cs[i]? = r.cs[i]?.map fun c => if c.status = 4 then c.to 3 else if c.status = 1 then c.to 2 else c := by
 rw [stopS_at tm _ _ (idxs_nn _), holdS_at, Option.map_map]
 cases h : r.cs[i]? with
 | none => rfl
 | some c =>
  have hi := (gEs.1 h).1
  simp only [Option.map_some, Function.comp, stop1, hold1, idxs_mem, hi, true_and]
  by_cases h4 : c.status = 4
  ·simp [h4]
  ·simp [h4]
theorem shut_cs (tm : Int) (r : RunSt) : (shutS tm r).cs = (stopS tm (idxs r.cs.length) (holdS r)).cs := by
 unfold shutS; split
 ·rfl
 ·exact (stopped_rest _ _).2.2.2.1
theorem shut_rest (tm : Int) (r : RunSt) : (shutS tm r).rs = r.rs ∧ (shutS tm r).fl = r.fl := by
 have h1 := stopS_rest tm (idxs r.cs.length) (holdS r)
 rw [holdS_rest] at h1
 simp only [RunSt.rest, Prod.mk.injEq] at h1
 unfold shutS; split
 ·exact ⟨h1.2.1, h1.2.2⟩
 ·have h2 := stopped_rest tm (stopS tm (idxs r.cs.length) (holdS r))
  exact ⟨h2.2.1.trans h1.2.1, h2.2.2.1.trans h1.2.2⟩
theorem shut_inv {x : Spec} {m : Int} {r : RunSt} (h : Inv0 x m r) (tm : Int) : Inv x m (shutS tm r) ∧ ((shutS tm r).st = 3 ∨ (shutS tm r).st = 4) := by
 have hat := shut_at tm r
 have hcs := shut_cs tm r
 obtain ⟨hrs, hfl⟩ := shut_rest tm r
 have no1 : ¬ Has (stopS tm (idxs r.cs.length) (holdS r)).cs 1 := by
  rintro ⟨i, c, h1, h2⟩
  rw [hat] at h1
  obtain ⟨c0, h3, h4⟩ := map_at h1
  subst h4
  split at h2
  ·simp at h2
  ·split at h2
   ·simp at h2
   ·exact absurd h2 ‹_›
 have no4 : ¬ Has (stopS tm (idxs r.cs.length) (holdS r)).cs 4 := by
  rintro ⟨i, c, h1, h2⟩
  rw [hat] at h1
  obtain ⟨c0, h3, h4⟩ := map_at h1
  subst h4
  split at h2
  ·simp at h2
  ·split at h2
   ·simp at h2
   ·exact absurd h2 ‹_›
 have hst : ((shutS tm r).st = 3 ∧ Has (stopS tm (idxs r.cs.length) (holdS r)).cs 2) ∨ ((shutS tm r).st = 4 ∧ ¬ Has (stopS tm (idxs r.cs.length) (holdS r)).cs 2) := by
  unfold shutS
  split
  ·rename_i hc; exact .inl ⟨rfl, cnt_pos.1 hc⟩
  ·rename_i hc; exact .inr ⟨(stopped_rest _ _).1, cnt_zero.1 (by omega)⟩
 refine ⟨⟨?_, ?_, ?_, by rw [hrs]; exact h.times, by rw [hrs]; exact h.few, fun _ => ?_⟩, ?_⟩
 ·rw [(size_shut tm r).cs]; exact h.len
 ·intro i c hc
  rw [hcs, hat] at hc
  obtain ⟨c0, h3, h4⟩ := map_at hc
  have := h.ok i c0 h3
  subst h4
  split
  ·simp; omega
  ·split
   ·simp; omega
   ·exact this
 ·rw [hcs]
  rcases hst with ⟨h1, h2⟩ | ⟨h1, h2⟩
  ·exact .inr (.inr (.inl ⟨h1, h2, no1, no4⟩))
  ·exact .inr (.inr (.inr ⟨h1, no1, h2, no4⟩))
 ·rcases hst with ⟨h1, _⟩ | ⟨h1, _⟩
  ·exact .inl h1
  ·exact .inr h1
 ·rcases hst with ⟨h1, _⟩ | ⟨h1, _⟩
  ·exact .inl h1
  ·exact .inr h1
theorem wrap_start {n : Int} (h : 1 ≤ n ∧ n ≤ 1099511627776) : IntKind.wrap .i64 (n + 1) = n + 1 := by rw [wrap64] <;> omega
theorem again_inv {x : Spec} {m : Int} {r : RunSt} (h : Inv0 x m r) (hm : m ≤ 1099511627776) (h2 : ¬ Has r.cs 2) (hf : r.fl = false) (tm : Int) : Inv x (m + 1) (againS tm r) := by
 have hat := againS_at tm r
 obtain ⟨h3, h4, h5⟩ := againS_rest tm r
 refine ⟨by rw [(size_again tm r).cs]; exact h.len, fun i c hc => ?_, .inl ⟨h3, ?_, ?_⟩, by rw [h4]; exact h.times, by rw [h4]; exact h.few, fun e => by rw [h5, hf] at e; cases e⟩
 ·rw [hat] at hc
  obtain ⟨c0, g1, g2⟩ := map_at hc
  have := h.ok i c0 g1
  subst g2
  unfold again1
  split
  ·rw [wrap_start (by omega)]; simp only; omega
  ·omega
 ·rintro ⟨i, c, g1, g2⟩
  rw [hat] at g1
  obtain ⟨c0, g3, g4⟩ := map_at g1
  subst g4
  unfold again1 at g2
  split at g2
  ·simp at g2
  ·exact h2 ⟨i, c0, g3, g2⟩
 ·rintro ⟨i, c, g1, g2⟩
  rw [hat] at g1
  obtain ⟨c0, g3, g4⟩ := map_at g1
  subst g4
  unfold again1 at g2
  split at g2
  ·simp at g2
  ·exact absurd g2 ‹_›
end
section
theorem Inv.mono {x : Spec} {m m' : Int} {r : RunSt} (h : Inv x m r) (hm : m ≤ m') : Inv x m' r := ⟨h.len, fun i c hc => by have := h.ok i c hc; omega, h.fit, h.times, h.few, h.fl⟩
theorem setS_has {r : RunSt} {n : Nat} {c : ChildState} (hc : r.cs[n]? = some c) {a b k : Int} (ha : c.status ≠ k) (hb : b ≠ k) : Has (r.setS n b).cs k ↔ Has r.cs k := by
 constructor
 ·rintro ⟨i, d, h1, h2⟩
  rw [setS_at] at h1
  obtain ⟨d0, h3, h4⟩ := map_at h1
  subst h4
  split at h2
  ·exact absurd h2 hb
  ·exact ⟨i, d0, h3, h2⟩
 ·rintro ⟨i, d, h1, h2⟩
  have hi : i ≠ n := by
   rintro rfl
   rw [hc] at h1; cases h1
   exact ha h2
  exact ⟨i, d, by rw [setS_at, h1]; simp [hi], h2⟩
theorem setS_ok {x : Spec} {m : Int} {r : RunSt} (h : Inv0 x m r) (n : Nat) {b : Int} (hb : 1 ≤ b ∧ b ≤ 4) : Inv0 x m (r.setS n b) := by
 refine ⟨by rw [setS_len]; exact h.len, fun i c hc => ?_, by rw [setS_rs]; exact h.times, by rw [setS_rs]; exact h.few⟩
 rw [setS_at] at hc
 obtain ⟨d, h3, h4⟩ := map_at hc
 have := h.ok i d h3
 subst h4
 split
 ·simp; omega
 ·omega
theorem sorted_last {l : List Int} (h : l.Pairwise (· ≤ ·)) : ∀ t ∈ l, t ≤ lastI l := by
 intro t ht
 obtain ⟨j, hj⟩ := List.getElem?_of_mem ht
 obtain ⟨hlt, rfl⟩ := gEs.1 hj
 unfold lastI
 rw [gEd, gEg (show l.length - 1 < l.length by omega)]
 simp only [Option.getD_some]
 by_cases h1 : j = l.length - 1
 ·subst h1; exact Int.le_refl _
 ·exact List.pairwise_iff_getElem.1 h j (l.length - 1) hlt (by omega) (by omega)
theorem not_stale {s : State} {e : Event} (h : staleB s e = false) (hl : s.restarts.l ≠ []) : lastI s.restarts.l ≤ e.time := by
 have h0 : 0 < s.restarts.l.length := List.length_pos_iff.2 hl
 unfold staleB at h
 rw [gEg (show s.restarts.l.length - 1 < s.restarts.l.length by omega)] at h
 unfold lastI
 rw [gEd, gEg (show s.restarts.l.length - 1 < s.restarts.l.length by omega)]
 simp at h
 simpa using h
theorem recent_times {x : Spec} (h0 : chk x = 0) {l : List Int} (h : TimesP l x.window) {tm : Int} (ht : 0 ≤ tm ∧ tm ≤ 1099511627776) (hs : ∀ t ∈ l, t ≤ tm) : TimesP (recentL x tm l ++ [tm]) x.window := by
 have hw := win_of h0
 have hold : ∀ t, oldT x tm t = decide (t ≤ tm - x.window) := by intro t; unfold oldT; rw [wrap64 (by omega) (by omega)]
 have hlast : lastI (recentL x tm l ++ [tm]) = tm := by unfold lastI; simp
 refine ⟨?_, fun t htm => ?_⟩
 ·rw [List.pairwise_append]
  refine ⟨h.1.filter _, by simp, fun a ha b hb => ?_⟩
  have : b = tm := by simpa using hb
  subst this
  exact hs a (List.mem_filter.1 ha).1
 ·rw [hlast]
  rcases List.mem_append.1 htm with h1 | h1
  ·obtain ⟨h2, h3⟩ := List.mem_filter.1 h1
   have := h.2 t h2
   rw [hold] at h3
   simp at h3
   omega
  ·have : t = tm := by simpa using h1
   subst this
   omega
theorem stop_inv0 {x : Spec} {m : Int} {r : RunSt} (h : Inv0 x m r) (tm : Int) {l : List Int} (hl : ∀ a ∈ l, 0 ≤ a) : Inv0 x m (stopS tm l r) := by
 have hr := stopS_rest tm l r
 simp only [RunSt.rest, Prod.mk.injEq] at hr
 refine ⟨by rw [stopS_len]; exact h.len, fun i c hc => ?_, by rw [hr.2.1]; exact h.times, by rw [hr.2.1]; exact h.few⟩
 rw [stopS_at tm l r hl] at hc
 obtain ⟨d, h3, h4⟩ := map_at hc
 have := h.ok i d h3
 subst h4
 unfold stop1
 split
 ·simp; omega
 ·omega
theorem running_inv {x : Spec} (h0 : chk x = 0) {m : Int} (hm : m ≤ 1099511627776) {r : RunSt} (h : Inv x m r) {n : Nat} {c : ChildState} (hc : r.cs[n]? = some c) (h1 : c.status = 1) {tm : Int} (ht : 0 ≤ tm ∧ tm ≤ 1099511627776) (hs : ∀ t ∈ r.rs, t ≤ tm) (ch : Child) (reason : Int) :
  Inv x (m + 1) (runningS x tm n ch reason r) := by
 have hst : r.st = 1 ∨ r.st = 2 := by
  rcases h.fit with ⟨a, _⟩ | ⟨a, _⟩ | ⟨_, _, a, _⟩ | ⟨_, a, _⟩
  ·exact .inl a
  ·exact .inr a
  ·exact absurd ⟨n, c, hc, h1⟩ a
  ·exact absurd ⟨n, c, hc, h1⟩ a
 have hfl : r.fl = false := by
  cases hf : r.fl with
  | false => rfl
  | true => have := h.fl hf; omega
 unfold runningS
 split
 ·have z := setS_ok h.zero n (b := 3) (by omega)
  have hr := setS_rest r n 3
  simp only [RunSt.rest, Prod.mk.injEq] at hr
  refine Inv.mono (m := m) ⟨z.len, z.ok, ?_, z.times, z.few, fun e => by rw [hr.2.2, hfl] at e; cases e⟩ (by omega)
  rw [hr.1]
  unfold Fit
  rw [setS_has hc (a := 1) (k := 2) (by omega) (by omega), setS_has hc (a := 1) (k := 4) (by omega) (by omega)]
  rcases h.fit with ⟨a1, a2, a3⟩ | ⟨a1, a2, a3, a4⟩ | ⟨a, _⟩ | ⟨a, _⟩
  ·exact .inl ⟨a1, a2, a3⟩
  ·exact .inr (.inl ⟨a1, a2, a3, a4⟩)
  ·omega
  ·omega
 ·split
  ·have z := setS_ok h.zero n (b := 3) (by omega)
   exact (shut_inv (m := m) (r := { r.setS n 3 with fl := true }) ⟨z.len, z.ok, z.times, z.few⟩ tm).1.mono (by omega)
  ·rename_i hq hi
   have hw := win_of h0
   have z0 : Inv0 x m ({ r with rs := recentL x tm r.rs ++ [tm] } : RunSt) := ⟨h.len, h.ok, recent_times h0 h.times ht hs, by simp; omega⟩
   have z1 := setS_ok z0 n (b := 4) (by omega)
   have z2 := stop_inv0 z1 tm (affL_nn x n)
   have hr := setS_rest ({ r with rs := recentL x tm r.rs ++ [tm] } : RunSt) n 4
   have hr2 := stopS_rest tm (affL x n) (({ r with rs := recentL x tm r.rs ++ [tm] } : RunSt).setS n 4)
   rw [hr] at hr2
   simp only [RunSt.rest, Prod.mk.injEq] at hr2
   have hcn : (({ r with rs := recentL x tm r.rs ++ [tm] } : RunSt).setS n 4).cs[n]? = some (c.to 4) := by
    rw [setS_at]; simp [hc]
   split
   ·rename_i hz
    exact again_inv z2 hm (cnt_zero.1 hz) (by rw [hr2.2.2]; exact hfl) tm
   ·rename_i hz
    have hz2 := cnt_pos.1 (by omega : 0 < cnt (stopS tm (affL x n) (({ r with rs := recentL x tm r.rs ++ [tm] } : RunSt).setS n 4)).cs 2)
    refine Inv.mono (m := m) ⟨z2.len, z2.ok, .inr (.inl ⟨rfl, ?_, hz2, n, c.to 4, ?_, rfl⟩), z2.times, z2.few, fun e => ?_⟩ (by omega)
    ·rcases h.fit with ⟨a1, a2, a3⟩ | ⟨a1, a2, _⟩ | ⟨a, _⟩ | ⟨a, _⟩
     ·intro hstr
      obtain ⟨i, d, g1, g2⟩ := hz2
      rw [stopS_at tm _ _ (affL_nn x n)] at g1
      obtain ⟨d0, g3, g4⟩ := map_at g1
      rw [setS_at] at g3
      obtain ⟨d1, g5, g6⟩ := map_at g3
      subst g4
      by_cases hin : i = n
      ·rw [if_pos hin] at g6
       subst g6
       simp [stop1] at g2
      ·rw [if_neg hin] at g6
       subst g6
       unfold stop1 at g2
       split at g2
       ·rename_i h9
        have := (affF_mem _ _ _ _ _).1 h9.1
        simp [affP, hstr] at this
        omega
       ·exact a2 ⟨i, d1, g5, g2⟩
     ·exact a2
     ·omega
     ·omega
    ·rw [stopS_at tm _ _ (affL_nn x n), hcn]
     simp [stop1]
    ·have : r.fl = true := by rw [← hr2.2.2]; exact e
     rw [hfl] at this; cases this
theorem stopping_inv {x : Spec} {m : Int} (hm : m ≤ 1099511627776) {r : RunSt} (h : Inv x m r) {n : Nat} {c : ChildState} (hc : r.cs[n]? = some c) (h2 : c.status = 2) (tm : Int) (ch : Child) : Inv x (m + 1) (stoppingS tm n ch r) := by
 have hst : r.st = 2 ∨ r.st = 3 := by
  rcases h.fit with ⟨_, a, _⟩ | ⟨a, _⟩ | ⟨a, _⟩ | ⟨_, _, a, _⟩
  ·exact absurd ⟨n, c, hc, h2⟩ a
  ·exact .inl a
  ·exact .inr a
  ·exact absurd ⟨n, c, hc, h2⟩ a
 have z : Inv0 x m (stopping1 n ch r) := setS_ok h.zero n (by split <;> omega)
 have hr : (stopping1 n ch r).rest = r.rest := setS_rest _ _ _
 simp only [RunSt.rest, Prod.mk.injEq] at hr
 have hfit := h.fit
 unfold stoppingS
 split
 ·rename_i hz
  have hz2 := cnt_pos.1 hz
  refine Inv.mono (m := m) ⟨z.len, z.ok, ?_, z.times, z.few, fun e => by rw [hr.1]; exact h.fl (by rw [← hr.2.2]; exact e)⟩ (by omega)
  rw [hr.1]
  rcases hst with hst | hst
  ·rcases hfit with ⟨a, _⟩ | ⟨a1, a2, a3, a4⟩ | ⟨a, _⟩ | ⟨a, _⟩
   ·omega
   ·refine .inr (.inl ⟨a1, a2, hz2, ?_⟩)
    obtain ⟨i, d, g1, g2⟩ := a4
    have hi : i ≠ n := by rintro rfl; rw [hc] at g1; cases g1; omega
    exact ⟨i, d, by unfold stopping1; rw [setS_at, g1]; simp [hi], g2⟩
   ·omega
   ·omega
  ·rcases hfit with ⟨a, _⟩ | ⟨a, _⟩ | ⟨a1, a2, a3, a4⟩ | ⟨a, _⟩
   ·omega
   ·omega
   ·refine .inr (.inr (.inl ⟨a1, hz2, ?_, ?_⟩))
    ·unfold stopping1
     rw [if_neg (by omega), setS_has hc (a := 2) (by omega) (by omega)]
     exact a3
    ·unfold stopping1
     rw [if_neg (by omega), setS_has hc (a := 2) (by omega) (by omega)]
     exact a4
   ·omega
 ·rename_i hz
  have hz2 : ¬ Has (stopping1 n ch r).cs 2 := cnt_zero.1 (by omega)
  split
  ·rename_i h22
   refine again_inv z hm hz2 ?_ tm
   rw [hr.2.2]
   cases hf : r.fl with
   | false => rfl
   | true => have := h.fl hf; omega
  ·rename_i h22
   obtain ⟨s1, s2, s3, s4, s5⟩ := stopped_rest tm (stopping1 n ch r)
   refine Inv.mono (m := m) ⟨by rw [s4]; exact z.len, by rw [s4]; exact z.ok, ?_, by rw [s2]; exact z.times, by rw [s2]; exact z.few, fun _ => .inr s1⟩ (by omega)
   rw [s1, s4]
   rcases hfit with ⟨a, _⟩ | ⟨a, _⟩ | ⟨a1, a2, a3, a4⟩ | ⟨a, _⟩
   ·omega
   ·omega
   ·refine .inr (.inr (.inr ⟨rfl, ?_, hz2, ?_⟩))
    ·unfold stopping1
     rw [if_neg (by omega), setS_has hc (a := 2) (by omega) (by omega)]
     exact a3
    ·unfold stopping1
     rw [if_neg (by omega), setS_has hc (a := 2) (by omega) (by omega)]
     exact a4
   ·omega
theorem handle_inv {x : Spec} (h0 : chk x = 0) {m : Int} (hm : m ≤ 1099511627776) {s : State} (h : Inv x m (runOf s)) {e : Event} (hc : checkN x s e = 0) : Inv x (m + 1) (handleR x s e) := by
 obtain ⟨hk, ht, hs, hd⟩ := check_facts hc
 have ht' : 0 ≤ e.time ∧ e.time ≤ 1099511627776 := by simpa [inR] using ht
 have hold : ∀ t ∈ s.restarts.l, t ≤ e.time := by
  intro t htm
  have h1 := sorted_last h.times.1 t htm
  have h2 := not_stale hs (List.ne_nil_of_mem htm)
  simp only [runOf] at h1
  omega
 unfold handleR
 rcases hk with ⟨h1, h2, h3⟩ | ⟨h1, _⟩
 ·rw [if_pos h1]
  have hin : 0 ≤ e.child ∧ e.child ≤ (x.children.l.length : Int) - 1 := by simpa [inR] using h2
  have hlen := h.len
  simp only [runOf] at hlen
  have g1 := gEg (l := x.children.l) (i := e.child.toNat) (by omega)
  have g2 := gEg (l := s.children.l) (i := e.child.toNat) (by omega)
  simp only [g1, g2]
  unfold exitedS
  split
  ·rename_i h4
   exact running_inv h0 hm h g2 h4 ht' hold _ _
  ·rename_i h4
   refine stopping_inv hm h g2 ?_ _ _
   unfold deadB at hd
   rw [if_pos h1, g2] at hd
   simp at hd
   exact hd h4
 ·rw [if_neg (by omega)]
  unfold askedS
  split
  ·exact h.mono (by omega)
  ·exact (shut_inv h.zero _).1.mono (by omega)
end
end Go.Proofs.YtjknjapdcphcfaaGreat
