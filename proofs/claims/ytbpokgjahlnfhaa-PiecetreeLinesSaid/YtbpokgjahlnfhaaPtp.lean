/- Trees of pieces, as plain data: what the program's functions on nodes compute, and what holds of it. Nothing of the program stands here. -/
import Derived.Test.YtbpokgjahlnfhaaProg
namespace Go.Proofs.Ytbpokgjahlnfhaa

inductive Tr where
  | nil : Tr
  | node : Tr → List UInt8 → Tr → Tr

namespace Tr
def bytes : Tr → List UInt8
  | nil => []
  | node l p r => bytes l ++ p ++ bytes r
def high : Tr → Nat
  | nil => 0
  | node l _ r => 1 + max (high l) (high r)
def count : Tr → Nat
  | nil => 0
  | node l _ r => count l + count r + 1
def size (t : Tr) : Nat := t.bytes.length
def feeds (t : Tr) : Nat := (t.bytes.filter (· == 10)).length
theorem size_node (l : Tr) (p : List UInt8) (r : Tr) : (node l p r).size = l.size + p.length + r.size := by simp [size, bytes]; omega
theorem feeds_node (l : Tr) (p : List UInt8) (r : Tr) : (node l p r).feeds = l.feeds + (p.filter (· == 10)).length + r.feeds := by simp [feeds, bytes, List.filter_append]; omega
/-- what 'balanced' makes -/
def bal (l : Tr) (p : List UInt8) (r : Tr) : Tr :=
  if high r + 1 < high l then
    match l with
    | nil => node nil p r
    | node a q m => if high m ≤ high a then node a q (node m p r) else
      match m with
      | nil => node a q (node nil p r)
      | node x s y => node (node a q x) s (node y p r)
  else if high l + 1 < high r then
    match r with
    | nil => node l p nil
    | node m q b => if high m ≤ high b then node (node l p m) q b else
      match m with
      | nil => node (node l p nil) q b
      | node x s y => node (node l p x) s (node y q b)
  else node l p r
theorem bytes_bal (l : Tr) (p : List UInt8) (r : Tr) : (bal l p r).bytes = l.bytes ++ p ++ r.bytes := by
  unfold bal
  split
  · split
    · rfl
    · split
      · simp [bytes, List.append_assoc]
      · split <;> simp [bytes, List.append_assoc]
  · split
    · split
      · rfl
      · split
        · simp [bytes, List.append_assoc]
        · split <;> simp [bytes, List.append_assoc]
    · rfl
theorem count_bal (l : Tr) (p : List UInt8) (r : Tr) : (bal l p r).count = l.count + r.count + 1 := by
  unfold bal
  split
  · split
    · rfl
    · split
      · simp [count]; omega
      · split <;> (simp [count]; omega)
  · split
    · split
      · rfl
      · split
        · simp [count]; omega
        · split <;> (simp [count]; omega)
    · rfl
/-- the two subtrees of each node differ in height by at most one -/
def avl : Tr → Prop
  | nil => True
  | node l _ r => avl l ∧ avl r ∧ high l ≤ high r + 1 ∧ high r ≤ high l + 1
/-- no piece is empty -/
def full : Tr → Prop
  | nil => True
  | node l p r => full l ∧ p ≠ [] ∧ full r
theorem full_bal {l : Tr} {p : List UInt8} {r : Tr} (hl : l.full) (hp : p ≠ []) (hr : r.full) : (bal l p r).full := by
  unfold bal
  split
  · split
    · exact ⟨hl, hp, hr⟩
    · obtain ⟨h1, h2, h3⟩ := hl
      split
      · exact ⟨h1, h2, h3, hp, hr⟩
      · split
        · exact ⟨h1, h2, h3, hp, hr⟩
        · obtain ⟨k1, k2, k3⟩ := h3
          exact ⟨⟨h1, h2, k1⟩, k2, k3, hp, hr⟩
  · split
    · split
      · exact ⟨hl, hp, hr⟩
      · obtain ⟨h1, h2, h3⟩ := hr
        split
        · exact ⟨⟨hl, hp, h1⟩, h2, h3⟩
        · split
          · exact ⟨⟨hl, hp, h1⟩, h2, h3⟩
          · obtain ⟨k1, k2, k3⟩ := h1
            exact ⟨⟨hl, hp, k1⟩, k2, k3, h2, h3⟩
    · exact ⟨hl, hp, hr⟩
theorem avl_bal {l : Tr} {p : List UInt8} {r : Tr} (hl : l.avl) (hr : r.avl) (h1 : high l ≤ high r + 2) (h2 : high r ≤ high l + 2) :
    (bal l p r).avl ∧ max (high l) (high r) ≤ high (bal l p r) ∧ high (bal l p r) ≤ 1 + max (high l) (high r) := by
  unfold bal
  split
  · rename_i hgt
    split
    · simp [high] at hgt
    · rename_i a q m
      obtain ⟨k1, k2, k3, k4⟩ := hl
      simp only [high] at h1 h2 hgt ⊢
      split
      · rename_i hc
        simp only [avl, high]
        refine ⟨⟨k1, ⟨k2, hr, ?_, ?_⟩, ?_, ?_⟩, ?_, ?_⟩ <;> omega
      · rename_i hc
        split
        · simp [high] at hc
        · rename_i x s y
          obtain ⟨j1, j2, j3, j4⟩ := k2
          simp only [high] at h1 h2 hgt hc k3 k4 ⊢
          simp only [avl, high]
          refine ⟨⟨⟨k1, j1, ?_, ?_⟩, ⟨j2, hr, ?_, ?_⟩, ?_, ?_⟩, ?_, ?_⟩ <;> omega
  · rename_i hle
    split
    · rename_i hgt
      split
      · simp [high] at hgt
      · rename_i m q b
        obtain ⟨k1, k2, k3, k4⟩ := hr
        simp only [high] at h1 h2 hgt hle ⊢
        split
        · rename_i hc
          simp only [avl, high]
          refine ⟨⟨⟨hl, k1, ?_, ?_⟩, k2, ?_, ?_⟩, ?_, ?_⟩ <;> omega
        · rename_i hc
          split
          · simp [high] at hc
          · rename_i x s y
            obtain ⟨j1, j2, j3, j4⟩ := k1
            simp only [high] at h1 h2 hgt hle hc k3 k4 ⊢
            simp only [avl, high]
            refine ⟨⟨⟨hl, j1, ?_, ?_⟩, ⟨j2, k2, ?_, ?_⟩, ?_, ?_⟩, ?_, ?_⟩ <;> omega
    · rename_i hgt
      simp only [avl, high]
      refine ⟨⟨hl, hr, ?_, ?_⟩, ?_, ?_⟩ <;> omega

theorem high_bal_even {l r : Tr} (p : List UInt8) (h1 : high l ≤ high r + 1) (h2 : high r ≤ high l + 1) : high (bal l p r) = 1 + max (high l) (high r) := by
  unfold bal
  rw [if_neg (by omega), if_neg (by omega)]
  rfl
/-- what 'join' makes -/
def join (l : Tr) (p : List UInt8) (r : Tr) : Tr :=
  if high r + 1 < high l then
    match l with
    | nil => node nil p r
    | node a q m => bal a q (join m p r)
  else if high l + 1 < high r then
    match r with
    | nil => node l p nil
    | node m q b => bal (join l p m) q b
  else node l p r
termination_by l.count + r.count
decreasing_by all_goals (simp [count]; omega)
theorem bytes_join (l : Tr) (p : List UInt8) (r : Tr) : (join l p r).bytes = l.bytes ++ p ++ r.bytes := by
  induction h : l.count + r.count using Nat.strongRecOn generalizing l r with
  | ind n ih =>
    unfold join
    split
    · split
      · rfl
      · rename_i a q m hgt
        rw [bytes_bal, ih (m.count + r.count) (by simp [count] at h; omega) m r rfl]
        simp [bytes, List.append_assoc]
    · split
      · split
        · rfl
        · rename_i m q b hle hgt
          rw [bytes_bal, ih (l.count + m.count) (by simp [count] at h; omega) l m rfl]
          simp [bytes, List.append_assoc]
      · rfl
theorem count_join (l : Tr) (p : List UInt8) (r : Tr) : (join l p r).count = l.count + r.count + 1 := by
  induction h : l.count + r.count using Nat.strongRecOn generalizing l r with
  | ind n ih =>
    unfold join
    split
    · split
      · simp [count] at h ⊢; omega
      · rename_i a q m hgt
        rw [count_bal, ih (m.count + r.count) (by simp [count] at h; omega) m r rfl]
        simp [count] at h ⊢; omega
    · split
      · split
        · simp [count] at h ⊢; omega
        · rename_i m q b hle hgt
          rw [count_bal, ih (l.count + m.count) (by simp [count] at h; omega) l m rfl]
          simp [count] at h ⊢; omega
      · simp [count] at h ⊢; omega
theorem full_join {l : Tr} {p : List UInt8} {r : Tr} (hl : l.full) (hp : p ≠ []) (hr : r.full) : (join l p r).full := by
  induction h : l.count + r.count using Nat.strongRecOn generalizing l r with
  | ind n ih =>
    unfold join
    split
    · split
      · exact ⟨hl, hp, hr⟩
      · rename_i a q m hgt
        exact full_bal hl.1 hl.2.1 (ih (m.count + r.count) (by simp [count] at h; omega) hl.2.2 hr rfl)
    · split
      · split
        · exact ⟨hl, hp, hr⟩
        · rename_i m q b hle hgt
          exact full_bal (ih (l.count + m.count) (by simp [count] at h; omega) hl hr.1 rfl) hr.2.1 hr.2.2
      · exact ⟨hl, hp, hr⟩
theorem avl_join {l : Tr} {p : List UInt8} {r : Tr} (hl : l.avl) (hr : r.avl) : (join l p r).avl ∧ max (high l) (high r) ≤ high (join l p r) ∧ high (join l p r) ≤ 1 + max (high l) (high r) := by
  induction h : l.count + r.count using Nat.strongRecOn generalizing l r with
  | ind n ih =>
    unfold join
    split
    · rename_i hgt
      split
      · simp [high] at hgt
      · rename_i a q m
        obtain ⟨k1, k2, k3, k4⟩ := hl
        obtain ⟨j1, j2, j3⟩ := ih (m.count + r.count) (by simp [count] at h; omega) k2 hr rfl
        simp only [high] at hgt ⊢
        obtain ⟨i1, i2, i3⟩ := avl_bal (p := q) k1 j1 (by omega) (by omega)
        by_cases he : high (join m p r) ≤ high a + 1
        · have := high_bal_even (l := a) (r := join m p r) q (by omega) he
          exact ⟨i1, by omega, by omega⟩
        · exact ⟨i1, by omega, by omega⟩
    · rename_i hle
      split
      · rename_i hgt
        split
        · simp [high] at hgt
        · rename_i m q b
          obtain ⟨k1, k2, k3, k4⟩ := hr
          obtain ⟨j1, j2, j3⟩ := ih (l.count + m.count) (by simp [count] at h; omega) hl k1 rfl
          simp only [high] at hgt hle ⊢
          obtain ⟨i1, i2, i3⟩ := avl_bal (p := q) j1 k2 (by omega) (by omega)
          by_cases he : high (join l p m) ≤ high b + 1
          · have := high_bal_even (l := join l p m) (r := b) q he (by omega)
            exact ⟨i1, by omega, by omega⟩
          · exact ⟨i1, by omega, by omega⟩
      · simp only [avl, high]
        refine ⟨⟨hl, hr, ?_, ?_⟩, ?_, ?_⟩ <;> omega
end Tr
end Go.Proofs.Ytbpokgjahlnfhaa
