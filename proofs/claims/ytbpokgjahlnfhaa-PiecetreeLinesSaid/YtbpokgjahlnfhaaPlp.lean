/- The lines of a string, plain. -/
import Derived.Test.YtbpokgjahlnfhaaPlo
namespace Go.Proofs.Ytbpokgjahlnfhaa

theorem fposF_at {B : List UInt8} {k j p : Nat} (h : (fposF B k)[j]? = some p) : k ≤ p ∧ B[p - k]? = some 10 := by
  induction B generalizing k j with
  | nil => simp [fposF] at h
  | cons b r ih =>
    simp only [fposF] at h
    split at h
    · rename_i hb
      cases j with
      | zero =>
        simp at h
        subst h
        simp [hb]
      | succ j =>
        simp at h
        obtain ⟨h1, h2⟩ := ih h
        refine ⟨by omega, ?_⟩
        rw [show p - k = (p - (k + 1)) + 1 from by omega]
        simpa using h2
    · obtain ⟨h1, h2⟩ := ih h
      refine ⟨by omega, ?_⟩
      rw [show p - k = (p - (k + 1)) + 1 from by omega]
      simpa using h2
theorem fposF_sorted (B : List UInt8) (k : Nat) : (fposF B k).Pairwise (· < ·) := by
  induction B generalizing k with
  | nil => exact List.Pairwise.nil
  | cons b r ih =>
    simp only [fposF]
    split
    · exact List.Pairwise.cons (fun p hp => by have := (fposF_bd hp).1; omega) (ih _)
    · exact ih _
theorem feedAt_some (t : Tr) {i : Nat} (h : i < t.feeds) : (fpos t.bytes)[i]? = some (t.feedAt i) := by
  have hl : i < (fpos t.bytes).length := by rw [Tr.feeds_len]; exact h
  unfold Tr.feedAt
  rw [List.getD_eq_getElem?_getD, List.getElem?_eq_getElem hl]
  rfl
theorem feedAt_ten (t : Tr) {i : Nat} (h : i < t.feeds) : t.bytes[t.feedAt i]? = some 10 := (fposF_at (feedAt_some t h)).2
theorem feedAt_mono (t : Tr) {i j : Nat} (h : j < t.feeds) (hij : i < j) : t.feedAt i < t.feedAt j := by
  have h1 := feedAt_some t (show i < t.feeds by omega)
  have h2 := feedAt_some t h
  have hs := fposF_sorted t.bytes 0
  rw [List.pairwise_iff_getElem] at hs
  obtain ⟨a1, b1⟩ := List.getElem?_eq_some_iff.1 h1
  obtain ⟨a2, b2⟩ := List.getElem?_eq_some_iff.1 h2
  have := hs i j a1 a2 hij
  change (fpos t.bytes)[i] < (fpos t.bytes)[j] at this
  omega
theorem line_le (t : Tr) {i : Nat} (h : i ≤ t.feeds) : t.lineFrom i ≤ t.lineTo i ∧ t.lineTo i ≤ t.size := by
  unfold Tr.lineFrom Tr.lineTo
  by_cases hi : i < t.feeds
  · rw [if_pos hi]
    have h2 := feedAt_lt t hi
    refine ⟨?_, by omega⟩
    split
    · omega
    · have := feedAt_mono t hi (show i - 1 < i by omega)
      omega
  · rw [if_neg hi]
    refine ⟨?_, Nat.le_refl _⟩
    split
    · omega
    · have := feedAt_lt t (show i - 1 < t.feeds by omega)
      omega
/-- what the first i lines are, joined -/
def Tr.joined (t : Tr) (i : Nat) : List UInt8 := if i = 0 then [] else t.bytes.take (t.lineTo (i - 1))
theorem joined_end (t : Tr) : t.joined (t.feeds + 1) = t.bytes := by
  unfold Tr.joined Tr.lineTo
  rw [if_neg (by omega), if_neg (by omega)]
  exact List.take_of_length_le (Nat.le_refl _)
theorem joined_first (t : Tr) : t.joined 0 ++ (t.bytes.drop (t.lineFrom 0)).take (t.lineTo 0 - t.lineFrom 0) = t.joined 1 := by
  simp [Tr.joined, Tr.lineFrom]
theorem joined_next (t : Tr) {i : Nat} (h : i + 1 ≤ t.feeds) : t.joined (i + 1) ++ [10] ++ (t.bytes.drop (t.lineFrom (i + 1))).take (t.lineTo (i + 1) - t.lineFrom (i + 1)) = t.joined (i + 2) := by
  have h1 : t.lineTo i = t.feedAt i := if_pos (by omega)
  have h2 : t.lineFrom (i + 1) = t.feedAt i + 1 := rfl
  have h3 := feedAt_ten t (show i < t.feeds by omega)
  have h4 := (line_le t h).1
  show t.bytes.take (t.lineTo i) ++ [10] ++ _ = t.bytes.take (t.lineTo (i + 1))
  have h5 : t.bytes.take (t.lineTo i) ++ [10] = t.bytes.take (t.feedAt i + 1) := by rw [h1, List.take_add_one, h3]; rfl
  rw [h5, h2, ← List.take_add]
  congr 1
  omega
theorem starts_len (t : Tr) : (starts t.bytes).length = t.feeds + 1 := by
  unfold starts startsF
  rw [List.length_cons, List.length_map]
  exact congrArg (· + 1) (Tr.feeds_len t)
theorem starts_get (t : Tr) {i : Nat} (h : i ≤ t.feeds) : (starts t.bytes).getD i 0 = (t.lineFrom i : Int) := by
  cases i with
  | zero => rfl
  | succ i =>
    have h1 := feedAt_some t (show i < t.feeds by omega)
    show ((fposF t.bytes 0).map fun p : Nat => (p : Int) + 1).getD i 0 = _
    change (fposF t.bytes 0)[i]? = _ at h1
    rw [List.getD_eq_getElem?_getD, List.getElem?_map, h1]
    rfl
theorem feedsTo_succ (t : Tr) {i : Nat} (h : i < t.bytes.length) : t.feedsTo (i + 1) = t.feedsTo i + if t.bytes[i] = 10 then 1 else 0 := by
  unfold Tr.feedsTo
  rw [List.take_add_one, List.getElem?_eq_getElem h, fcnt_append]
  congr 1
  show fcnt [t.bytes[i]] = _
  split
  · rename_i hb; rw [hb]; rfl
  · rename_i hb; simp [fcnt, hb]
end Go.Proofs.Ytbpokgjahlnfhaa
