/- The plain law of the order of strings. No program is walked here. -/
import Derived.Test.YtkoklnnlhfjbjaaLwP
namespace Go.Proofs.Ytkoklnnlhfjbjaa
theorem less_cons (a b : Nat) (ha : a < 256) (hb : b < 256) (x y : List UInt8) : Op.bytesLess (UInt8.ofNat a :: x) (UInt8.ofNat b :: y) = if a < b then true else if b < a then false else Op.bytesLess x y := by
  have e1 : decide (UInt8.ofNat a < UInt8.ofNat b) = decide (a < b) := by
    rw [decide_eq_decide, UInt8.lt_iff_toNat_lt, U.toNat_ofNat_lt a ha, U.toNat_ofNat_lt b hb]
  have e2 : (UInt8.ofNat a == UInt8.ofNat b) = decide (a = b) := by
    rw [Bool.eq_iff_iff, beq_iff_eq, decide_eq_true_eq]
    constructor
    · intro h
      have := congrArg UInt8.toNat h
      rw [U.toNat_ofNat_lt a ha, U.toNat_ofNat_lt b hb] at this
      exact this
    · intro h; rw [h]
  rw [Op.bytesLess, e1, e2]
  by_cases h1 : a < b
  · simp [h1]
  · by_cases h2 : b < a
    · have : ¬ a = b := by omega
      simp [h1, h2, this]
    · have : a = b := by omega
      simp [this]
theorem less_same (u x y : List UInt8) : Op.bytesLess (u ++ x) (u ++ y) = Op.bytesLess x y := by
  induction u with
  | nil => rfl
  | cons c u ih =>
    rw [List.cons_append, List.cons_append, Op.bytesLess, ih]
    simp
theorem less_enc (p q : Nat) (hp : p ≤ 1114111) (hq : q ≤ 1114111) (h : p ≠ q) (x y : List UInt8) : Op.bytesLess (U.enc p ++ x) (U.enc q ++ y) = decide (p < q) := by
  unfold U.enc
  rcases (by omega : p < 128 ∨ (128 ≤ p ∧ p < 2048) ∨ (2048 ≤ p ∧ p < 65536) ∨ 65536 ≤ p) with a | ⟨a, a'⟩ | ⟨a, a'⟩ | a
  · rw [if_pos a, List.cons_append]
    rcases (by omega : q < 128 ∨ (128 ≤ q ∧ q < 2048) ∨ (2048 ≤ q ∧ q < 65536) ∨ 65536 ≤ q) with b | ⟨b, b'⟩ | ⟨b, b'⟩ | b
    · rw [if_pos b, List.cons_append, less_cons _ _ (by omega) (by omega)]
      (repeat' split) <;> first | (exfalso; omega) | exact (decide_eq_true (by omega)).symm | exact (decide_eq_false (by omega)).symm
    · rw [if_neg (by omega), if_pos b', List.cons_append, less_cons _ _ (by omega) (by omega), if_pos (by omega)]; exact (decide_eq_true (by omega)).symm
    · rw [if_neg (by omega), if_neg (by omega), if_pos b', List.cons_append, less_cons _ _ (by omega) (by omega), if_pos (by omega)]; exact (decide_eq_true (by omega)).symm
    · rw [if_neg (by omega), if_neg (by omega), if_neg (by omega), List.cons_append, less_cons _ _ (by omega) (by omega), if_pos (by omega)]; exact (decide_eq_true (by omega)).symm
  · rw [if_neg (by omega), if_pos a', List.cons_append, List.cons_append]
    rcases (by omega : q < 128 ∨ (128 ≤ q ∧ q < 2048) ∨ (2048 ≤ q ∧ q < 65536) ∨ 65536 ≤ q) with b | ⟨b, b'⟩ | ⟨b, b'⟩ | b
    · rw [if_pos b, List.cons_append, less_cons _ _ (by omega) (by omega), if_neg (by omega), if_pos (by omega)]; exact (decide_eq_false (by omega)).symm
    · rw [if_neg (by omega), if_pos b', List.cons_append, List.cons_append, less_cons _ _ (by omega) (by omega), less_cons _ _ (by omega) (by omega)]
      (repeat' split) <;> first | (exfalso; omega) | exact (decide_eq_true (by omega)).symm | exact (decide_eq_false (by omega)).symm
    · rw [if_neg (by omega), if_neg (by omega), if_pos b', List.cons_append, less_cons _ _ (by omega) (by omega), if_pos (by omega)]; exact (decide_eq_true (by omega)).symm
    · rw [if_neg (by omega), if_neg (by omega), if_neg (by omega), List.cons_append, less_cons _ _ (by omega) (by omega), if_pos (by omega)]; exact (decide_eq_true (by omega)).symm
  · rw [if_neg (by omega), if_neg (by omega), if_pos a', List.cons_append, List.cons_append, List.cons_append]
    rcases (by omega : q < 128 ∨ (128 ≤ q ∧ q < 2048) ∨ (2048 ≤ q ∧ q < 65536) ∨ 65536 ≤ q) with b | ⟨b, b'⟩ | ⟨b, b'⟩ | b
    · rw [if_pos b, List.cons_append, less_cons _ _ (by omega) (by omega), if_neg (by omega), if_pos (by omega)]; exact (decide_eq_false (by omega)).symm
    · rw [if_neg (by omega), if_pos b', List.cons_append, less_cons _ _ (by omega) (by omega), if_neg (by omega), if_pos (by omega)]; exact (decide_eq_false (by omega)).symm
    · rw [if_neg (by omega), if_neg (by omega), if_pos b', List.cons_append, List.cons_append, List.cons_append, less_cons _ _ (by omega) (by omega), less_cons _ _ (by omega) (by omega), less_cons _ _ (by omega) (by omega)]
      (repeat' split) <;> first | (exfalso; omega) | exact (decide_eq_true (by omega)).symm | exact (decide_eq_false (by omega)).symm
    · rw [if_neg (by omega), if_neg (by omega), if_neg (by omega), List.cons_append, less_cons _ _ (by omega) (by omega), if_pos (by omega)]; exact (decide_eq_true (by omega)).symm
  · rw [if_neg (by omega), if_neg (by omega), if_neg (by omega), List.cons_append, List.cons_append, List.cons_append, List.cons_append]
    rcases (by omega : q < 128 ∨ (128 ≤ q ∧ q < 2048) ∨ (2048 ≤ q ∧ q < 65536) ∨ 65536 ≤ q) with b | ⟨b, b'⟩ | ⟨b, b'⟩ | b
    · rw [if_pos b, List.cons_append, less_cons _ _ (by omega) (by omega), if_neg (by omega), if_pos (by omega)]; exact (decide_eq_false (by omega)).symm
    · rw [if_neg (by omega), if_pos b', List.cons_append, less_cons _ _ (by omega) (by omega), if_neg (by omega), if_pos (by omega)]; exact (decide_eq_false (by omega)).symm
    · rw [if_neg (by omega), if_neg (by omega), if_pos b', List.cons_append, less_cons _ _ (by omega) (by omega), if_neg (by omega), if_pos (by omega)]; exact (decide_eq_false (by omega)).symm
    · rw [if_neg (by omega), if_neg (by omega), if_neg (by omega), List.cons_append, List.cons_append, List.cons_append, List.cons_append, less_cons _ _ (by omega) (by omega), less_cons _ _ (by omega) (by omega), less_cons _ _ (by omega) (by omega), less_cons _ _ (by omega) (by omega)]
      (repeat' split) <;> first | (exfalso; omega) | exact (decide_eq_true (by omega)).symm | exact (decide_eq_false (by omega)).symm
theorem encs_at (ps : List Nat) (k : Nat) (h : k < ps.length) : U.encs ps = U.encs (ps.take k) ++ (U.enc (ps.getD k 0) ++ U.encs (ps.drop (k + 1))) := by
  conv => lhs; rw [← List.take_append_drop k ps, U.encs_append, List.drop_eq_getElem_cons h, U.encs_cons]
  simp [List.getD, List.getElem?_eq_getElem h]
theorem ptsI_get (l : List UInt8) (k : Nat) : (ptsI l).getD k 0 = (((U.pts l).getD k 0 : Nat) : Int) := by
  unfold ptsI
  rw [List.getD, List.getD, List.getElem?_map]
  cases (U.pts l)[k]? <;> rfl
theorem pts_le (l : List UInt8) (k : Nat) (h : k < (U.pts l).length) : (U.pts l).getD k 0 ≤ 1114111 := by
  rw [List.getD, List.getElem?_eq_getElem h]
  exact ((U.isPt_iff _).1 (U.pts_ok l _ (List.getElem_mem h))).1
theorem encs_take_eq (l m : List UInt8) (k : Nat) (h : (ptsI l).take k = (ptsI m).take k) : U.encs ((U.pts l).take k) = U.encs ((U.pts m).take k) := by
  rw [← encI_take, ← encI_take, h]
theorem order_diff (l m : List UInt8) (hl : (U.bad l).isEmpty = true) (hm : (U.bad m).isEmpty = true) (k : Nat) (h1 : k < (ptsI l).length) (h2 : k < (ptsI m).length) (h : (ptsI l).take k = (ptsI m).take k) (hne : (ptsI l).getD k 0 ≠ (ptsI m).getD k 0) :
    Op.bytesLess l m = decide ((ptsI l).getD k 0 < (ptsI m).getD k 0) := by
  rw [ptsI_length] at h1 h2
  rw [ptsI_get, ptsI_get] at hne ⊢
  conv => lhs; rw [valid_encs l hl, valid_encs m hm, encs_at _ k h1, encs_at _ k h2, encs_take_eq l m k h, less_same]
  rw [less_enc _ _ (pts_le l k h1) (pts_le m k h2) (by omega), decide_eq_decide]
  omega
theorem encs_drop (l m : List UInt8) (hl : (U.bad l).isEmpty = true) (hm : (U.bad m).isEmpty = true) (k : Nat) (h : (ptsI l).take k = (ptsI m).take k) : Op.bytesLess l m = Op.bytesLess (U.encs ((U.pts l).drop k)) (U.encs ((U.pts m).drop k)) := by
  conv => lhs; rw [valid_encs l hl, valid_encs m hm, ← List.take_append_drop k (U.pts l), ← List.take_append_drop k (U.pts m), U.encs_append, U.encs_append, encs_take_eq l m k h, less_same]
theorem encs_pos (ps : List Nat) (h : ps ≠ []) : ∃ c r, U.encs ps = c :: r := by
  cases ps with
  | nil => exact absurd rfl h
  | cons p ps =>
    have hp := (U.esize_pos p).1
    rw [← U.enc_length] at hp
    rw [U.encs_cons]
    cases he : U.enc p with
    | nil => rw [he] at hp; simp at hp
    | cons c r => exact ⟨c, r ++ U.encs ps, rfl⟩
theorem order_end (l m : List UInt8) (hl : (U.bad l).isEmpty = true) (hm : (U.bad m).isEmpty = true) (k : Nat) (h : (ptsI l).take k = (ptsI m).take k) (h1 : k ≤ (ptsI l).length) (h2 : k ≤ (ptsI m).length) (he : (ptsI l).length ≤ k ∨ (ptsI m).length ≤ k) :
    Op.bytesLess l m = decide (((ptsI l).length : Int) < (ptsI m).length) := by
  rw [encs_drop l m hl hm k h]
  rw [ptsI_length, ptsI_length] at *
  by_cases hmk : (U.pts m).length ≤ k
  · rw [List.drop_eq_nil_of_le hmk, decide_eq_false (by omega)]
    show Op.bytesLess _ [] = false
    rw [Op.bytesLess]
  · rw [List.drop_eq_nil_of_le (show (U.pts l).length ≤ k by omega), decide_eq_true (by omega)]
    obtain ⟨c, r, e⟩ := encs_pos ((U.pts m).drop k) (by intro e; have := congrArg List.length e; rw [List.length_drop] at this; simp at this; omega)
    rw [e]
    rfl
end Go.Proofs.Ytkoklnnlhfjbjaa
