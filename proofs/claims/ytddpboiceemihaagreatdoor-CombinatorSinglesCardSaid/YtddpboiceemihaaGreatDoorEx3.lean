/-
  (*strings.Builder).String, and all that is known of functions of the library (conditions: none).
-/
import Derived.Test.YtddpboiceemihaaGreatDoorEx2
import Derived.RegionTactic
namespace Go.Proofs.YtddpboiceemihaaGreatDoor
open Go Go.RowKit
set_option linter.unusedVariables false
set_option linter.unusedSimpArgs false

set_option maxHeartbeats 2000000 in
set_option maxRecDepth 100000 in
theorem str_nil (b o : Nat) (w : World) (h1 : w.cell? ⟨b, o + 1, none⟩ = some (.slice none 0 0)) :
    Calls Tryz.prog 101 #[.pointer (some ⟨b, o, none⟩)] w fun e w' => e = .returned (.string ⟨#[]⟩) ∧ w' = w.drew := by
  have hUS : ∀ (W : World) (q : Option Addr), (Builtin.unsafeString_ #[172, 3] 9 #[.pointer q, .int .i64 0]).run Tryz.prog W = .ok (.string .empty) W := fun W q => Lib.run_unsafeString_none W _ _ _ q
  have c1 : w.drew.cell? ⟨b, o + 1, none⟩ = some (.slice none 0 0) := h1
  have hSD : (Builtin.unsafeSliceData_ #[127] 172 #[.slice none 0 0]).run Tryz.prog w.drew = .ok (.pointer none) w.drew := rfl
  go_enter Tryz.func101, Tryz.ntmps101
  go_wp2
  go_region
  all_goals (go_wp2; go_ret; exact ⟨rfl, rfl⟩)
set_option maxHeartbeats 2000000 in
set_option maxRecDepth 100000 in
theorem str_full (b o g cap : Nat) (cur : Array Value) (l : List UInt8) (h0 : l ≠ []) (w : World) (h1 : w.cell? ⟨b, o + 1, none⟩ = some (.slice (some ⟨g, 0, none⟩) l.length cap)) (hg : w.heap[g]? = some (.cells cur 5 (0, 0))) (hcap : cap ≠ 0) (hlc : l.length ≤ cur.size) (hm : l.length ≤ 9223372036854775807)
    (hcell : ∀ (j : Nat) (x : UInt8), l[j]? = some x → cur[j]? = some (.int .u8 x.toNat)) :
    Calls Tryz.prog 101 #[.pointer (some ⟨b, o, none⟩)] w fun e w' => e = .returned (.string ⟨l.toArray⟩) ∧ w' = w.drew.freeze ⟨g, 0, none⟩ l.length := by
  have c1 : w.drew.cell? ⟨b, o + 1, none⟩ = some (.slice (some ⟨g, 0, none⟩) l.length cap) := h1
  have hSD : (Builtin.unsafeSliceData_ #[127] 172 #[.slice (some ⟨g, 0, none⟩) l.length cap]).run Tryz.prog w.drew = .ok (.pointer (some ⟨g, 0, none⟩)) w.drew := Lib.run_unsafeSliceData_row _ _ _ _ _ _ hcap
  have hUS : (Builtin.unsafeString_ #[172, 3] 9 #[.pointer (some ⟨g, 0, none⟩), .int .i64 l.length]).run Tryz.prog w.drew = .ok (.string ⟨l.toArray⟩) (w.drew.freeze ⟨g, 0, none⟩ l.length) := by
    refine Lib.run_unsafeString_row w.drew 172 3 9 5 und172 (by kernel_rfl) g cur.size (by have hg' : w.drew.heap[g]? = some (.cells cur 5 (0, 0)) := hg; simp [World.shape?, hg']) l h0 hlc hm ?_
    intro j x hx
    rw [addr_add, Nat.zero_add]
    have hg' : w.drew.heap[g]? = some (.cells cur 5 (0, 0)) := hg
    simp [World.cell?, hg', hcell j x hx]
  go_enter Tryz.func101, Tryz.ntmps101
  go_wp2
  go_region
  all_goals (go_wp2; go_ret; exact ⟨rfl, rfl⟩)
theorem strOK (he : Enters Tryz.prog 101) : ExtMOK Tryz.prog 101 strM := by
  refine ⟨he, fun K w M R H H' args avs v hw hv h => ?_⟩
  unfold strM at h
  split at h
  · rename_i id off
    split at h
    · rename_i t cs hb
      split at h
      · rename_i hin
        obtain ⟨u1, us, rfl, a1, a2⟩ := hv.inv_cons
        have := a2.inv_nil
        subst this
        obtain ⟨g, c, b1, b2, b3, b4, b5, b6⟩ := hw.heap.blk _ _ hb
        cases a1 with
        | bptr R _ _ g' hg' =>
        rw [b1] at hg'; cases hg'
        split at h
        · rename_i nsz hc0
          cases h
          have hol : off + 1 < cs.length := (List.getElem?_eq_some_iff.1 hc0).1
          have hoc : off + 1 < c.size := by omega
          have hcv : c[off + 1]? = some (.slice none 0 0) := by
            have h1 := b5 (off + 1) _ _ hc0 (Array.getElem?_eq_getElem hoc)
            rw [Array.getElem?_eq_getElem hoc]
            generalize c[off + 1] = q at h1
            cases h1 with
            | isl R _ _ _ a cap b o u hnl hna hcap ha hsz hc hv1 =>
              have hnone : a = none := by have := hnl true rfl; simpa using this
              subst hnone
              obtain ⟨_, rfl⟩ := hna rfl
              rfl
          refine CallsIn.mono (callsIn_wide.2 (str_nil g.blk off w (by simp [World.cell?, b3, hcv]))) ?_
          rintro e w' ⟨rfl, rfl⟩
          obtain ⟨d1, d2⟩ := hw.same (w' := w.drew) rfl rfl rfl rfl
          exact ⟨_, rfl, _, _, d1, d2, .str _ _⟩
        · rename_i bid ver len hc0
          split at h
          · rename_i v0 l hbb
            split at h
            · rename_i hcond
              obtain ⟨rfl, rfl, hpos, hle⟩ := hcond
              cases h
              obtain ⟨g2, c2, k1, k2, k3, k4, k5, k6, k7⟩ := hw.heap.blk _ _ hbb
              have hol : off + 1 < cs.length := (List.getElem?_eq_some_iff.1 hc0).1
              have hoc : off + 1 < c.size := by omega
              have hcv : c[off + 1]? = some (.slice (some ⟨g2.blk, 0, none⟩) l.length g2.cap) := by
                have h1 := b5 (off + 1) _ _ hc0 (Array.getElem?_eq_getElem hoc)
                rw [Array.getElem?_eq_getElem hoc]
                generalize c[off + 1] = q at h1
                cases h1 with
                | bys R _ _ _ g3 hg3 hle => rw [k1] at hg3; cases hg3; rfl
              refine CallsIn.mono (callsIn_wide.2 (str_full g.blk off g2.blk g2.cap c2 l (fun e => by subst e; cases hpos) w (by simp [World.cell?, b3, hcv]) k3 (by omega) (by omega) (by omega) k6)) ?_
              rintro e w' ⟨rfl, rfl⟩
              obtain ⟨d1, d2⟩ := hw.same (w' := w.drew) rfl rfl rfl rfl
              have hfz : (w.drew.freeze ⟨g2.blk, 0, none⟩ l.length) = { w.drew with heap := w.drew.heap.modify g2.blk fun | .cells c elem (lo, hi) => .cells c elem (if lo == hi then (0, 0 + l.length) else (min lo 0, max hi (0 + l.length))) | o => o } := by
                unfold World.freeze
                rw [if_neg (by omega)]
                rfl
              obtain ⟨z1, z2⟩ := d1.killB (w' := w.drew.freeze ⟨g2.blk, 0, none⟩ l.length) (f' := (0, 0 + l.length)) hbb k1 k2 (t := byteT) (c := c2) (f := (0, 0)) k3 (by
                rw [hfz]
                have hk : w.drew.heap[g2.blk]? = some (.cells c2 byteT (0, 0)) := k3
                simp only [Array.getElem?_modify, if_true, hk, Option.map_some]
                rfl) (by rw [hfz]; simp) (fun k hk => by rw [hfz]; simp only [Array.getElem?_modify]; rw [if_neg (fun e => hk e.symm)]) (by rw [hfz]) (by rw [hfz]) (by rw [hfz])
              exact ⟨_, rfl, _, _, z1, d2.trans z2, .str _ _⟩
            · cases h
          · cases h
        · cases h
      · cases h
    · cases h
  · cases h
/-- Functions whose answers are known answer so. -/
theorem extOK : ∀ f g, ext f = some g → ExtOK Tryz.prog f g := by
  intro f g h
  unfold ext at h
  split at h
  · rename_i e; subst e; cases h
    exact containsOK (enters_of Tryz.func164 (by kernel_rfl) rfl)
  · split at h
    · rename_i e; subst e; cases h
      exact itoaOK (enters_of Tryz.func97 (by kernel_rfl) rfl)
    · split at h
      · rename_i e; subst e; cases h
        exact repeatOK (enters_of Tryz.func144 (by kernel_rfl) rfl)
      · split at h
        · rename_i e; subst e; cases h
          exact joinOK (enters_of Tryz.func96 (by kernel_rfl) rfl)
        · cases h
theorem extMOK : ∀ f g, extM f = some g → ExtMOK Tryz.prog f g := by
  intro f g h
  unfold extM at h
  split at h
  · rename_i e; subst e; cases h
    exact copyOK (enters_of Tryz.func174 (by kernel_rfl) rfl)
  · split at h
    · rename_i e; subst e; cases h
      exact strOK (enters_of Tryz.func101 (by kernel_rfl) rfl)
    · split at h
      · rename_i e; subst e; cases h
        exact sortOK (enters_of Tryz.func246 (by kernel_rfl) rfl)
      · split at h
        · rename_i e; subst e; cases h
          exact compOK (enters_of Tryz.func247 (by kernel_rfl) rfl)
        · cases h
end Go.Proofs.YtddpboiceemihaaGreatDoor
