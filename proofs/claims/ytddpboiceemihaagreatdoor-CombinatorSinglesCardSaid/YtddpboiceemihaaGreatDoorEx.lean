/-
  Functions of the library answer what is said of them (conditions: none).
-/
import Derived.Test.YtddpboiceemihaaGreatDoorCalls
import Derived.Test.YtddpboiceemihaaGreatDoorShelf
namespace Go.Proofs.YtddpboiceemihaaGreatDoor
open Go Go.RowKit
set_option linter.unusedVariables false
set_option linter.unusedSimpArgs false

theorem maxLen_of {w : World} {M : Mut} (h : GOk w M noRes) : ∃ m : Int, w.cell? ⟨0, 0, none⟩ = some (.int .i64 m) := by
  have h1 := h _ (List.mem_map.2 ⟨(0, [.unk .i64]), by simp [glb], rfl⟩)
  cases h1 with
  | eptr R cs b o u hc hv =>
    have a := (hc 0 _ rfl).1
    have b := hv 0 _ rfl
    generalize u 0 = x at a b
    cases b with
    | unk R k n => exact ⟨n, a⟩
theorem containsOK (he : Enters Tryz.prog 164) : ExtOK Tryz.prog 164 containsA := by
  refine ⟨he, fun w M args avs v hg hv h => ?_⟩
  obtain ⟨m, hm⟩ := maxLen_of hg
  unfold containsA at h
  split at h
  · rename_i s t
    split at h
    · rename_i hs
      cases h
      obtain ⟨u1, us, rfl, a1, a2⟩ := hv.inv_cons
      obtain ⟨u2, us2, rfl, b1, b2⟩ := a2.inv_cons
      have := b2.inv_nil
      subst this
      cases a1; cases b1
      have hc := Tryz.strings_Contains ⟨s.toArray⟩ ⟨t.toArray⟩ m w hs hm
      refine CallsIn.mono (callsIn_wide.2 hc) ?_
      rintro e w' ⟨rfl, rfl⟩
      exact ⟨_, rfl, Below.refl _ _, .bool _ _⟩
    · cases h
  · cases h
theorem dec2_ok : ∀ i : Fin 100, dec2 i.1 = Lib.decDigits i.1 := by decide +kernel
theorem itoaOK (he : Enters Tryz.prog 97) : ExtOK Tryz.prog 97 itoaA := by
  refine ⟨he, fun w M args avs v hg hv h => ?_⟩
  unfold itoaA at h
  split at h
  · rename_i n
    split at h
    · rename_i hn
      cases h
      obtain ⟨u1, us, rfl, a1, a2⟩ := hv.inv_cons
      have := a2.inv_nil
      subst this
      cases a1
      obtain ⟨i, rfl⟩ : ∃ i : Nat, n = i := ⟨n.toNat, by omega⟩
      have hc := Tryz.strconv_Itoa_small i (by omega) w
      refine CallsIn.mono (callsIn_wide.2 hc) ?_
      rintro e w' ⟨rfl, rfl⟩
      refine ⟨_, rfl, Below.refl _ _, ?_⟩
      have := dec2_ok ⟨i, by omega⟩
      simp only at this
      simp only [Int.toNat_natCast, this]
      exact .str _ _
    · cases h
  · cases h
theorem repL_ok (l : List UInt8) : ∀ n, repL l n = Lib.repeatL l n
  | 0 => rfl
  | n + 1 => by simp only [repL, Lib.repeatL, repL_ok l n]
theorem repeatOK (he : Enters Tryz.prog 144) : ExtOK Tryz.prog 144 repeatA := by
  refine ⟨he, fun w M args avs v hg hv h => ?_⟩
  unfold repeatA at h
  split at h
  · rename_i s n
    split at h
    · rename_i hn
      cases h
      obtain ⟨u1, us, rfl, a1, a2⟩ := hv.inv_cons
      obtain ⟨u2, us2, rfl, b1, b2⟩ := a2.inv_cons
      have := b2.inv_nil
      subst this
      cases a1; cases b1
      obtain ⟨i, rfl⟩ : ∃ i : Nat, n = i := ⟨n.toNat, by omega⟩
      have hsz : (⟨s.toArray⟩ : ByteArray).size = s.length := by simp [ByteArray.size]
      have hmul : s.length * i ≤ 1048576 * 1048576 := Nat.mul_le_mul (by omega) (by omega)
      have hc := Tryz.strings_Repeat ⟨s.toArray⟩ i w (by omega) (by rw [hsz]; omega)
      refine CallsIn.mono (callsIn_wide.2 hc) ?_
      rintro e w' ⟨rfl, hb⟩
      refine ⟨_, rfl, hb, ?_⟩
      simp only [Int.toNat_natCast, repL_ok]
      exact .str _ _
    · cases h
  · cases h
theorem strsOf_spec : ∀ {es : List AV} {l : List (List UInt8)}, strsOf es = some l → es = l.map .str
  | [], l, h => by simp [strsOf] at h; subst h; rfl
  | x :: r, l, h => by
    cases x <;> simp only [strsOf] at h <;> try cases h
    obtain ⟨l', h1, rfl⟩ := Option.map_eq_some_iff.1 h
    rw [strsOf_spec h1]; rfl
theorem joinL_ok (sep : List UInt8) : ∀ l, joinL sep l = Lib.join l sep
  | [] => rfl
  | [x] => by simp [joinL, Lib.join, List.intercalate]
  | x :: y :: r => by
    simp only [joinL, joinL_ok sep (y :: r)]
    simp [Lib.join, List.intercalate, List.intersperse]
theorem joinOK (he : Enters Tryz.prog 96) : ExtOK Tryz.prog 96 joinA := by
  refine ⟨he, fun w M args avs v hg hv h => ?_⟩
  unfold joinA at h
  split at h
  · rename_i nl sz es sep
    split at h
    · rename_i l hl
      split at h
      · rename_i hb
        cases h
        have hes := strsOf_spec hl
        subst hes
        obtain ⟨u1, us, rfl, a1, a2⟩ := hv.inv_cons
        obtain ⟨u2, us2, rfl, b1, b2⟩ := a2.inv_cons
        have := b2.inv_nil
        subst this
        cases b1
        cases a1 with
        | isl R _ _ _ a cap b o u hnl hna hcap ha hsz hc hv1 =>
        cases l with
        | nil =>
          have hc := Tryz.strings_Join_none a cap ⟨sep.toArray⟩ w
          refine CallsIn.mono (callsIn_wide.2 hc) ?_
          rintro e w' ⟨rfl, rfl⟩
          exact ⟨_, rfl, Below.refl _ _, .str _ _⟩
        | cons x r =>
          have hae := ha (by simp)
          subst hae
          have hsz1 : sz = 1 := (hsz 0 (.str x) rfl).symm
          subst hsz1
          have hcell : ∀ (j : Nat) (y : List UInt8), (x :: r)[j]? = some y → w.cell? ⟨b, o + j, none⟩ = some (.string ⟨y.toArray⟩) := by
            intro j y hj
            have h1 : ((x :: r).map AV.str)[j]? = some (.str y) := by rw [List.getElem?_map, hj]; rfl
            have h2 := hc j _ 0 _ h1 rfl
            have h3 := hv1 j _ 0 _ h1 rfl
            rw [Nat.mul_one, Nat.add_zero] at h2
            generalize u j 0 = q at h2 h3
            cases h3
            exact h2.1
          have hlt : b < w.heap.size := cell_lt (hcell 0 x rfl)
          have hmap : ((x :: r).map fun y => (⟨y.toArray⟩ : ByteArray)).map (·.data.toList) = x :: r := by
            rw [List.map_map]
            conv => rhs; rw [← List.map_id (x :: r)]
            apply List.map_congr_left
            intro y _; simp
          have hlen : ((x :: r).map AV.str).length = ((x :: r).map fun y => (⟨y.toArray⟩ : ByteArray)).length := by simp
          have hc' := Tryz.strings_Join b o cap ((x :: r).map fun y => ⟨y.toArray⟩) ⟨sep.toArray⟩ w (fun j y hj => by
            rw [List.getElem?_map] at hj
            obtain ⟨z, h1, rfl⟩ := Option.map_eq_some_iff.1 hj
            exact hcell j z h1) hlt (by have := hb.2; simp at this ⊢; omega) (by simpa using hcap) (by
            rw [hmap]
            have := hb.1
            rw [joinL_ok] at this
            simpa using (by omega : (Lib.join (x :: r) sep).length ≤ 140737488355328))
          rw [← hlen, hmap] at hc'
          refine CallsIn.mono (callsIn_wide.2 hc') ?_
          rintro e w' ⟨rfl, hb'⟩
          refine ⟨_, rfl, hb', ?_⟩
          rw [joinL_ok]
          exact .str _ _
      · cases h
    · cases h
  · cases h
end Go.Proofs.YtddpboiceemihaaGreatDoor
