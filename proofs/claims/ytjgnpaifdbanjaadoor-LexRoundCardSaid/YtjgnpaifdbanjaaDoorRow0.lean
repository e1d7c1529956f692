import Derived.Test.YtjgnpaifdbanjaaDoorAwake
import Derived.Test.YtjgnpaifdbanjaaDoorTie
import Derived.Test.YtjgnpaifdbanjaaDoorCards
import Derived.OpenShut
import Derived.LaidMore
import Derived.Lay
import Derived.ProofKit
import Derived.SizedLaws
import Derived.SevenTiedAt
import Derived.Stop.Joined
import Derived.Lib.LaidU8
set_option linter.unusedSimpArgs false
set_option linter.unusedVariables false
namespace Go.Proofs.YtjgnpaifdbanjaaDoor
open Go.RowKit
set_option maxRecDepth 100000

/-! a row's begin: the tables of the listed variables, as an immutable heap -/
def tabH (W : World) (g1 g2 : Nat) : Hp := fun b => if b = g1 ∨ b = g2 then (match W.heap[b]? with | some (.cells c t _) => some (c, t) | _ => none) else none
theorem tabH_in (W : World) (g1 g2 : Nat) : (tabH W g1 g2).In W := by
  intro b c t h
  unfold tabH at h
  split at h
  · cases hb : W.heap[b]? with
    | none => rw [hb] at h; cases h
    | some o =>
      rw [hb] at h
      cases o <;> simp at h
      obtain ⟨rfl, rfl⟩ := h
      exact ⟨_, rfl⟩
  · cases h

theorem cell_same {W w : World} {H : Hp} {b off : Nat} {v : Value} (hin : H.In w) (hH : ∀ c t fz, W.heap[b]? = some (.cells c t fz) → H b = some (c, t)) (h : W.cell? ⟨b, off, none⟩ = some v) : w.cell? ⟨b, off, none⟩ = some v := by
  unfold World.cell? at h
  simp only at h
  cases hb : W.heap[b]? with
  | none => rw [hb] at h; cases h
  | some o =>
    rw [hb] at h
    cases o with
    | cells c t fz =>
      obtain ⟨fz', hw⟩ := hin _ _ _ (hH c t fz hb)
      rw [cell_of_heap hw]
      simpa using h
    | _ => simp at h

theorem tabs_of {W : World} (h : Lib.Utf8Tabs 0 1 W) : Tabs (tabH W 0 1) := by
  intro w hin
  have e1 : ∀ c t fz, W.heap[0]? = some (.cells c t fz) → tabH W 0 1 0 = some (c, t) := fun c t fz hb => by
    unfold tabH; rw [if_pos (.inl rfl), hb]
  have e2 : ∀ c t fz, W.heap[1]? = some (.cells c t fz) → tabH W 0 1 1 = some (c, t) := fun c t fz hb => by
    unfold tabH; rw [if_pos (.inr rfl), hb]
  exact ⟨fun c hc => cell_same hin e1 (h.1 c hc), fun i hi => ⟨cell_same hin e2 (h.2 i hi).1, cell_same hin e2 (h.2 i hi).2⟩⟩

theorem own : ownKnob Tryd.prog.godebug = none := by kernel_rfl
end Go.Proofs.YtjgnpaifdbanjaaDoor
