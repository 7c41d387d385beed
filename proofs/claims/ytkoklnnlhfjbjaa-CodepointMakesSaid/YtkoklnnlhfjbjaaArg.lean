/- Slices of ints that came in, as 'Ints'. -/
import Derived.Test.YtkoklnnlhfjbjaaMem
import Derived.ProofKit
import Derived.OpenShut
namespace Go.Proofs.Ytkoklnnlhfjbjaa
open Go.RowKit
theorem Ints.nil (w : World) : Ints w (.slice none 0 0) [] := ⟨none, 0, rfl, Nat.le_refl _, by unfold maxLen; omega, fun h => absurd h (by simp)⟩
theorem cell_lt {w : World} {b o : Nat} {v : Value} (h : w.cell? ⟨b, o, none⟩ = some v) : b < w.heap.size := by
  rcases Nat.lt_or_ge b w.heap.size with h' | h'
  · exact h'
  · simp [World.cell?, Array.getElem?_eq_none h'] at h
theorem Ints.of_cells {w : World} {x : Addr} {l c : Nat} {zs : List Int} (hl : l ≤ c) (hm : c ≤ maxLen) (hz : zs.length = c) (hcell : ∀ i, i < zs.length → w.cell? (x.add i) = some (.int .i64 (zs.getD i 0))) : Ints w (.slice (some x) l c) (zs.take l) := by
  have hlen : (zs.take l).length = l := by rw [List.length_take]; omega
  refine ⟨some x, c, by rw [hlen], by rw [hlen]; exact hl, hm, fun hp => ?_⟩
  rw [hlen] at hp
  obtain ⟨b, off, rfl, hc⟩ := ints_at hcell (by omega)
  refine ⟨b, off, rfl, ?_, fun j hj => ?_⟩
  · exact cell_lt (by have := hc 0 (by omega); exact this)
  · rw [hlen] at hj
    rw [hc j (by omega)]
    simp [List.getD, hj]
end Go.Proofs.Ytkoklnnlhfjbjaa
