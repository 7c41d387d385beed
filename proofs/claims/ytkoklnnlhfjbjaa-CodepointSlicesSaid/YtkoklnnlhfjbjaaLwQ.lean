/- The plain law of slices of a string at its units. No program is walked here. -/
import Derived.Test.YtkoklnnlhfjbjaaLwP
namespace Go.Proofs.Ytkoklnnlhfjbjaa
theorem sliceP_in (l : List UInt8) (h : (U.bad l).isEmpty = true) (i j : Nat) (hij : i ≤ j) (hj : j ≤ (U.pts l).length) : sliceP l i j = ((l.drop (offN l i)).take (offN l j - offN l i), 0) := by
  obtain ⟨h1, h2⟩ := begN_encs _ (U.pts_ok l)
  rw [← valid_encs l h] at h1 h2
  unfold sliceP
  rw [if_pos h, if_neg (by omega), Int.toNat_natCast, Int.toNat_natCast, h2 i (by omega), h2 j hj]
  rfl
theorem sliceP_out (l : List UInt8) (h : (U.bad l).isEmpty = true) (a b : Int) (hab : a < 0 ∨ b < a ∨ ((U.pts l).length : Int) < b) : sliceP l a b = ([], 2) := by
  obtain ⟨h1, h2⟩ := begN_encs _ (U.pts_ok l)
  rw [← valid_encs l h] at h1
  unfold sliceP
  rw [if_pos h, if_pos (by omega)]
theorem sliceP_bad (l : List UInt8) (h : (U.bad l).isEmpty = false) (a b : Int) : sliceP l a b = ([], 12) := by unfold sliceP; rw [h]; rfl
theorem offN_split (l : List UInt8) (i j : Nat) (hij : i ≤ j) : U.encs ((U.pts l).take j) = U.encs ((U.pts l).take i) ++ U.encs (((U.pts l).take j).drop i) := by
  rw [← U.encs_append]
  congr 1
  conv => lhs; rw [← List.take_append_drop i ((U.pts l).take j)]
  rw [List.take_take, Nat.min_eq_left hij]
theorem offN_mono (l : List UInt8) (i j : Nat) (hij : i ≤ j) : offN l i ≤ offN l j := by
  unfold offN; rw [offN_split l i j hij, List.length_append]; omega
theorem slice_encs (l : List UInt8) (h : (U.bad l).isEmpty = true) (i j : Nat) (hij : i ≤ j) : (l.drop (offN l i)).take (offN l j - offN l i) = U.encs (((U.pts l).take j).drop i) := by
  rw [← List.drop_take, (take_offN l h j).1, offN_split l i j hij]
  unfold offN
  simp
theorem slice_join (l : List UInt8) (x y z : Nat) (h : x ≤ y) (h' : y ≤ z) : (l.drop x).take (y - x) ++ (l.drop y).take (z - y) = (l.drop x).take (z - x) := by
  rw [show z - x = (y - x) + (z - y) by omega, List.take_add, List.drop_drop, show x + (y - x) = y by omega]
theorem sliceP_ok (l : List UInt8) (a b : Int) (h : (sliceP l a b).2 = 0) : (U.bad l).isEmpty = true ∧ 0 ≤ a ∧ a ≤ b ∧ b ≤ (U.pts l).length := by
  by_cases hb : (U.bad l).isEmpty = true
  · refine ⟨hb, ?_⟩
    by_cases ho : a < 0 ∨ b < a ∨ ((U.pts l).length : Int) < b
    · rw [sliceP_out l hb a b ho] at h; simp at h
    · omega
  · rw [sliceP_bad l (by simpa using hb)] at h; simp at h
/-- the slices of two adjacent ranges are together the slice of both -/
theorem sliceP_join (l : List UInt8) (a b c : Int) (h1 : (sliceP l a b).2 = 0) (h2 : (sliceP l b c).2 = 0) : (sliceP l a b).1 ++ (sliceP l b c).1 = (sliceP l a c).1 := by
  obtain ⟨hb, h3, h4, h5⟩ := sliceP_ok l a b h1
  obtain ⟨_, h6, h7, h8⟩ := sliceP_ok l b c h2
  obtain ⟨i, rfl⟩ := Int.eq_ofNat_of_zero_le h3
  obtain ⟨j, rfl⟩ := Int.eq_ofNat_of_zero_le h6
  obtain ⟨k, rfl⟩ := Int.eq_ofNat_of_zero_le (show 0 ≤ c by omega)
  rw [sliceP_in l hb i j (by omega) (by omega), sliceP_in l hb j k (by omega) (by omega), sliceP_in l hb i k (by omega) (by omega)]
  exact slice_join l _ _ _ (offN_mono l i j (by omega)) (offN_mono l j k (by omega))
theorem okI_sub (l : List UInt8) (i j : Nat) : okI (((ptsI l).take j).drop i) = true ∧ encI (((ptsI l).take j).drop i) = U.encs (((U.pts l).take j).drop i) := by
  have e : ((ptsI l).take j).drop i = (((U.pts l).take j).drop i).map fun p => ((p : Nat) : Int) := by unfold ptsI; rw [← List.map_take, ← List.map_drop]
  rw [e]
  refine ⟨okI_map _ fun p hp => takePts_ok l j p (List.mem_of_mem_drop hp), ?_⟩
  unfold encI; rw [toNat_map]
end Go.Proofs.Ytkoklnnlhfjbjaa
