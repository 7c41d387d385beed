/- The plain laws behind CodepointOffsets, CodepointSlices and CodepointOrders. No program is walked here. -/
import Derived.Test.YtkoklnnlhfjbjaaLaw
namespace Go.Proofs.Ytkoklnnlhfjbjaa
theorem mem_headPos (l : List UInt8) : ∀ i o, o ∈ headPos i l ↔ i ≤ o ∧ (l[o - i]?).map isHead = some true := by
  induction l with
  | nil => intro i o; simp [headPos]
  | cons c l ih =>
    intro i o
    simp only [headPos]
    rcases (by omega : o < i ∨ o = i ∨ i < o) with h | rfl | h
    · have hn : ¬ o ∈ headPos (i + 1) l := fun hm => by have := headPos_low l _ _ hm; omega
      have hne : o ≠ i := by omega
      have hni : ¬ i ≤ o := by omega
      split <;> simp [hn, hne, hni]
    · have hn : ¬ o ∈ headPos (o + 1) l := fun hm => by have := headPos_low l _ _ hm; omega
      by_cases hc : isHead c = true
      · simp [hc]
      · simp [hc, hn]
    · have he : (c :: l)[o - i]? = l[o - (i + 1)]? := by
        rw [show o - i = (o - (i + 1)) + 1 by omega, List.getElem?_cons_succ]
      have hne : o ≠ i := by omega
      have hh : i ≤ o ↔ i + 1 ≤ o := by omega
      rw [he]
      split
      · rw [List.mem_cons, ih, ← hh]
        exact ⟨fun e => e.resolve_left hne, Or.inr⟩
      · rw [ih, ← hh]
/-- the offset of a unit of a string -/
def offN (l : List UInt8) (i : Nat) : Nat := (U.encs ((U.pts l).take i)).length
theorem takePts_ok (l : List UInt8) (i : Nat) : ∀ p ∈ (U.pts l).take i, U.isPt p = true := fun p hp => U.pts_ok l p (List.mem_of_mem_take hp)
theorem encI_take (l : List UInt8) (i : Nat) : encI ((ptsI l).take i) = U.encs ((U.pts l).take i) := by
  unfold encI ptsI; rw [← List.map_take, toNat_map]
theorem okI_takeP (l : List UInt8) (i : Nat) : okI ((ptsI l).take i) = true := by
  unfold ptsI; rw [← List.map_take]; exact okI_map _ (takePts_ok l i)
theorem ptsI_length (l : List UInt8) : (ptsI l).length = (U.pts l).length := by simp [ptsI]
theorem valid_encs (l : List UInt8) (h : (U.bad l).isEmpty = true) : l = U.encs (U.pts l) := U.of_valid l (by simpa using h)
theorem take_offN (l : List UInt8) (h : (U.bad l).isEmpty = true) (i : Nat) : l.take (offN l i) = U.encs ((U.pts l).take i) ∧ l.drop (offN l i) = U.encs ((U.pts l).drop i) := by
  have h2 : l = U.encs ((U.pts l).take i) ++ U.encs ((U.pts l).drop i) := by
    conv => lhs; rw [valid_encs l h, ← List.take_append_drop i (U.pts l), U.encs_append]
  unfold offN
  constructor
  · conv => lhs; arg 2; rw [h2]
    simp
  · conv => lhs; arg 2; rw [h2]
    simp
theorem offN_le (l : List UInt8) (h : (U.bad l).isEmpty = true) (i : Nat) : offN l i ≤ l.length := by
  have := congrArg List.length (take_offN l h i).1
  rw [List.length_take] at this
  unfold offN at this ⊢; omega
theorem offN_all (l : List UInt8) (h : (U.bad l).isEmpty = true) (i : Nat) (hi : (U.pts l).length ≤ i) : offN l i = l.length := by
  unfold offN; rw [List.take_of_length_le hi, ← valid_encs l h]
theorem count_take (l : List UInt8) (h : (U.bad l).isEmpty = true) (i : Nat) (hi : i ≤ (U.pts l).length) : countP (l.take (offN l i)) = (i, 0) := by
  rw [(take_offN l h i).1]
  obtain ⟨h1, h2⟩ := U.scan_of _ (takePts_ok l i)
  rw [countP_valid _ (by rw [h2]; rfl), ptsI_length, h1, List.length_take, Nat.min_eq_left hi]
theorem mem_heads (l : List UInt8) (h : (U.bad l).isEmpty = true) (o : Nat) : (l[o]?).map isHead = some true ↔ ∃ k, k < (U.pts l).length ∧ offN l k = o := by
  have h1 := mem_headPos l 0 o
  rw [Nat.sub_zero] at h1
  have h2 : headPos 0 l = offs 0 (U.pts l) := by conv => lhs; rw [valid_encs l h]
                                                 exact headPos_encs _ (U.pts_ok l) 0
  rw [h2] at h1
  have h3 : (l[o]?).map isHead = some true ↔ o ∈ offs 0 (U.pts l) := by rw [h1]; simp
  rw [h3, List.mem_iff_getElem]
  constructor
  · rintro ⟨k, hk, he⟩
    have hk' := hk
    rw [offs_length] at hk'
    refine ⟨k, hk', ?_⟩
    have := offs_get (U.pts l) 0 k hk'
    rw [List.getD, List.getElem?_eq_getElem hk, Option.getD_some, he] at this
    unfold offN; omega
  · rintro ⟨k, hk, he⟩
    have hk' : k < (offs 0 (U.pts l)).length := by rw [offs_length]; exact hk
    refine ⟨k, hk', ?_⟩
    have := offs_get (U.pts l) 0 k hk
    rw [List.getD, List.getElem?_eq_getElem hk', Option.getD_some] at this
    rw [this, ← he]; unfold offN; omega
theorem head_or (l : List UInt8) (o : Nat) (h : o < l.length) : (l[o]?).map isHead = some true ∨ (l[o]?).map isHead = some false := by
  rw [List.getElem?_eq_getElem h, Option.map_some]
  cases isHead l[o] <;> simp
/-- Unit, at an offset where a unit begins -/
theorem unitP_off (l : List UInt8) (h : (U.bad l).isEmpty = true) (i : Nat) (hi : i ≤ (U.pts l).length) : unitP l (offN l i) = (i, 0) := by
  unfold unitP
  rw [if_pos h, if_neg, Int.toNat_natCast, count_take l h i hi]
  have hle := offN_le l h i
  rintro (h1 | h1 | ⟨h1, h2⟩)
  · omega
  · omega
  · rw [Int.toNat_natCast] at h2
    have hlt : i < (U.pts l).length := by
      rcases Nat.lt_or_ge i (U.pts l).length with h3 | h3
      · exact h3
      · have := offN_all l h i h3; omega
    have := (mem_heads l h (offN l i)).2 ⟨i, hlt, rfl⟩
    rw [this] at h2; simp at h2
/-- Unit, at any other offset -/
theorem unitP_no (l : List UInt8) (h : (U.bad l).isEmpty = true) (o : Int) (hn : ∀ i, i ≤ (U.pts l).length → (offN l i : Int) ≠ o) : unitP l o = (0, 2) := by
  unfold unitP
  rw [if_pos h, if_pos]
  rcases (by omega : o < 0 ∨ (l.length : Int) < o ∨ o = l.length ∨ (0 ≤ o ∧ o < l.length)) with h1 | h1 | h1 | ⟨h1, h2⟩
  · exact Or.inl h1
  · exact Or.inr (Or.inl h1)
  · exact absurd (by rw [offN_all l h _ (Nat.le_refl _), h1]) (hn (U.pts l).length (Nat.le_refl _))
  · obtain ⟨k, rfl⟩ := Int.eq_ofNat_of_zero_le h1
    refine Or.inr (Or.inr ⟨h2, ?_⟩)
    rw [Int.toNat_natCast]
    rcases head_or l k (by omega) with h3 | h3
    · obtain ⟨j, hj, he⟩ := (mem_heads l h k).1 h3
      exact absurd (by rw [he]) (hn j (by omega))
    · exact h3
/-- Offset -/
theorem offP_in (l : List UInt8) (h : (U.bad l).isEmpty = true) (i : Nat) (hi : i ≤ (U.pts l).length) : offP l i = ((offN l i : Int), 0) := by
  obtain ⟨h1, h2⟩ := begN_encs _ (U.pts_ok l)
  rw [← valid_encs l h] at h1 h2
  unfold offP
  rw [if_pos h, if_neg (by omega), Int.toNat_natCast, h2 i hi]
  rfl
theorem offP_out (l : List UInt8) (h : (U.bad l).isEmpty = true) (u : Int) (hu : u < 0 ∨ ((U.pts l).length : Int) < u) : offP l u = (0, 2) := by
  obtain ⟨h1, h2⟩ := begN_encs _ (U.pts_ok l)
  rw [← valid_encs l h] at h1 h2
  unfold offP
  rw [if_pos h, if_pos (by omega)]
theorem offP_bad (l : List UInt8) (h : (U.bad l).isEmpty = false) (u : Int) : offP l u = (0, 12) := by unfold offP; rw [h]; rfl
theorem unitP_bad (l : List UInt8) (h : (U.bad l).isEmpty = false) (o : Int) : unitP l o = (0, 12) := by unfold unitP; rw [h]; rfl
end Go.Proofs.Ytkoklnnlhfjbjaa
