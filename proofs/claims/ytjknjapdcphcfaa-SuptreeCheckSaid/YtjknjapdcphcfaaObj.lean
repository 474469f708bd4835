/-
  New blocks, and objects that turn (conditions: none).
-/
import Derived.Test.YtjknjapdcphcfaaMem
import Derived.RangeFuncRecord
namespace Go.Proofs.Ytjknjapdcphcfaa
open Go Go.RowKit
set_option linter.unusedVariables false
set_option linter.unusedSimpArgs false

section objs
variable {P : Program} {C : CodeR} {K : Ctx} {w : World} {M : Mut} {R : Res} {H : Heap}

theorem cell_putObj {r : Nat} {o o' : Obj} (hr : w.heap[r]? = some o) (ho : ∀ c t f, o ≠ .cells c t f) (b i : Nat) {v : Value} (h : w.cell? ⟨b, i, none⟩ = some v) : (w.putObj r o').cell? ⟨b, i, none⟩ = some v := by
  by_cases hb : b = r
  · subst hb
    unfold World.cell? at h
    rw [hr] at h
    cases o <;> simp at h
    exact absurd rfl (ho _ _ _)
  · rw [cell_of_heap (World.putObj_heap_other hb)]; exact h

theorem evol_putObj {r : Nat} {o o' : Obj} (hr : w.heap[r]? = some o) (ho : ∀ c t f, o ≠ .cells c t f) : Evol R M w R M (w.putObj r o') :=
  ⟨by show w.heap.size ≤ (w.heap.setIfInBounds r o').size; simp, fun b i v h _ => cell_putObj hr ho b i h, fun _ _ _ h => h, fun _ _ _ h => h⟩
theorem below_putObj {B r : Nat} (o' : Obj) (h : B ≤ r) : Below B w (w.putObj r o') :=
  ⟨rfl, rfl, rfl, by show w.heap.size ≤ (w.heap.setIfInBounds r o').size; simp, fun k hk => World.putObj_heap_other (by omega)⟩

/-- A new block of the call's own, whatever it holds. -/
theorem WR.newBlk (h : WR C K w M R H) (o : Obj) (B : Blk) (g : Own) (hg : g.blk = w.heap.size) (hv : B.ver = 0) (hblk : BlkR C (w.alloc o) (mutNew M w.heap.size) (resNew R H.length g) H.length B) :
    WR C K (w.alloc o) (mutNew M w.heap.size) (resNew R H.length g) (H ++ [B]) ∧ Evol R M w (resNew R H.length g) (mutNew M w.heap.size) (w.alloc o) := by
  have he := evol_new h o g
  refine ⟨⟨⟨?_, ?_, ?_⟩, fun p hp => (h.pins p hp).evol he, h.below.trans ((Below.refl _ w).alloc h.le _), ?_, ?_, ?_, fun r hr => h.mark_alloc _ hr, h.nodup⟩, he⟩
  · intro id B' hb
    rcases Nat.lt_trichotomy id H.length with hid | hid | hid
    · rw [List.getElem?_append_left hid] at hb
      refine (h.heap.blk id B' hb).keep he (fun v => by unfold resNew; rw [if_neg (by omega)]) (fun g' hg' => ?_) (fun g hg o hm => .inl hm)
      obtain ⟨g'', h1, h2, _⟩ := h.heap.place hb
      rw [hg'] at h1; cases h1
      exact Below.heap_alloc _ _ _ h2
    · subst hid
      simp at hb
      subst hb
      exact hblk
    · rw [List.getElem?_eq_none (by simp; omega)] at hb; cases hb
  · intro id ver g' hg'
    unfold resNew at hg'
    split at hg'
    · simp; omega
    · have := h.heap.dom id ver g' hg'; simp; omega
  · intro i j Bi Bj gi gj hi hj hgi hgj hb
    have old : ∀ k B' g', (H ++ [B])[k]? = some B' → resNew R H.length g k B'.ver = some g' → (k = H.length ∧ g'.blk = w.heap.size) ∨ (k < H.length ∧ H[k]? = some B' ∧ R k B'.ver = some g' ∧ g'.blk < w.heap.size) := by
      intro k B' g' hk hg'
      rcases Nat.lt_trichotomy k H.length with hid | hid | hid
      · rw [List.getElem?_append_left hid] at hk
        unfold resNew at hg'
        rw [if_neg (by omega)] at hg'
        obtain ⟨g'', h1, h2, _⟩ := h.heap.place hk
        rw [hg'] at h1; cases h1
        exact .inr ⟨hid, hk, hg', h2⟩
      · subst hid
        unfold resNew at hg'
        rw [if_pos rfl] at hg'
        split at hg'
        · cases hg'; exact .inl ⟨rfl, hg⟩
        · cases hg'
      · rw [List.getElem?_eq_none (by simp; omega)] at hk; cases hk
    rcases old i Bi gi hi hgi with ⟨a1, a2⟩ | ⟨a1, a2, a3, a4⟩ <;> rcases old j Bj gj hj hgj with ⟨b1, b2⟩ | ⟨b1, b2, b3, b4⟩
    · omega
    · omega
    · omega
    · exact h.heap.inj i j Bi Bj gi gj a2 b2 a3 b3 hb
  · intro id ver g' hg'
    unfold resNew at hg'
    split at hg'
    · split at hg'
      · cases hg'; rw [hg]; exact h.le
      · cases hg'
    · exact h.base id ver g' hg'
  · intro b o hb
    have := h.le
    exact ⟨fun hm => hm.elim (fun hm => (h.sub b o hb).1 hm) (fun hm => absurd hm (by omega)), fun hm => .inl ((h.sub b o hb).2 hm)⟩
  · have := h.le
    show K.base ≤ (w.heap.push _).size
    simp; omega

end objs
end Go.Proofs.Ytjknjapdcphcfaa
