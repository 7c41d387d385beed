/- Trees of pieces, plain: last, concat, split, replace; the depth against the number of pieces. -/
import Derived.Test.YtbpokgjahlnfhaaPtp
namespace Go.Proofs.Ytbpokgjahlnfhaa
namespace Tr
def last : Tr → Tr × List UInt8
  | nil => (nil, [])
  | node l p nil => (l, p)
  | node l p (node a q b) => (bal l p (last (node a q b)).1, (last (node a q b)).2)
theorem bytes_last {t : Tr} : (last t).1.bytes ++ (last t).2 = t.bytes := by
  induction t with
  | nil => rfl
  | node l p r _ ih =>
    cases r with
    | nil => simp [last, bytes]
    | node a q b =>
      simp only [last]
      rw [bytes_bal, List.append_assoc, ih]
      rfl
theorem count_last {l : Tr} {p : List UInt8} {r : Tr} : (last (node l p r)).1.count + 1 = (node l p r).count := by
  induction r generalizing l p with
  | nil => simp [last, count]
  | node a q b _ ih =>
    simp only [last]
    rw [count_bal]
    have := @ih a q
    simp only [count] at this ⊢
    omega
theorem full_last {l : Tr} {p : List UInt8} {r : Tr} (h : (node l p r).full) : (last (node l p r)).1.full ∧ (last (node l p r)).2 ≠ [] := by
  induction r generalizing l p with
  | nil => exact ⟨h.1, h.2.1⟩
  | node a q b _ ih =>
    obtain ⟨k1, k2⟩ := ih h.2.2
    exact ⟨full_bal h.1 h.2.1 k1, k2⟩
theorem avl_last {l : Tr} {p : List UInt8} {r : Tr} (h : (node l p r).avl) : (last (node l p r)).1.avl ∧ high (last (node l p r)).1 ≤ high (node l p r) ∧ high (node l p r) ≤ high (last (node l p r)).1 + 1 := by
  induction r generalizing l p with
  | nil =>
    obtain ⟨k1, _, k3, k4⟩ := h
    simp only [last, high] at *
    exact ⟨k1, by omega, by omega⟩
  | node a q b _ ih =>
    obtain ⟨k1, k2, k3, k4⟩ := h
    obtain ⟨j1, j2, j3⟩ := ih k2
    simp only [last]
    obtain ⟨i1, i2, i3⟩ := avl_bal (p := p) k1 j1 (by omega) (by omega)
    refine ⟨i1, ?_, ?_⟩
    · rw [show high (node l p (node a q b)) = 1 + max (high l) (high (node a q b)) from rfl]
      by_cases he : high l ≤ high (last (node a q b)).1 + 1
      · have := high_bal_even p he (by omega)
        omega
      · omega
    · rw [show high (node l p (node a q b)) = 1 + max (high l) (high (node a q b)) from rfl]
      by_cases he : high l ≤ high (last (node a q b)).1 + 1
      · have := high_bal_even p he (by omega)
        omega
      · omega
def concat : Tr → Tr → Tr
  | nil, r => r
  | node a q b, r => join (last (node a q b)).1 (last (node a q b)).2 r
theorem bytes_concat (l r : Tr) : (concat l r).bytes = l.bytes ++ r.bytes := by
  cases l with
  | nil => rfl
  | node a q b => simp only [concat]; rw [bytes_join, bytes_last]
theorem count_concat (l r : Tr) : (concat l r).count = l.count + r.count := by
  cases l with
  | nil => simp [concat, count]
  | node a q b =>
    simp only [concat]
    rw [count_join]
    have := @count_last a q b
    omega
theorem full_concat {l r : Tr} (hl : l.full) (hr : r.full) : (concat l r).full := by
  cases l with
  | nil => exact hr
  | node a q b => exact full_join (full_last hl).1 (full_last hl).2 hr
theorem avl_concat {l r : Tr} (hl : l.avl) (hr : r.avl) : (concat l r).avl := by
  cases l with
  | nil => exact hr
  | node a q b => exact (avl_join (avl_last hl).1 hr).1
def split : Tr → Int → Tr × Tr
  | nil, _ => (nil, nil)
  | node l p r, i =>
    if i - (l.size : Int) ≤ 0 then ((split l i).1, join (split l i).2 p r)
    else if (p.length : Int) ≤ i - (l.size : Int) then (join l p (split r (i - (l.size : Int) - (p.length : Int))).1, (split r (i - (l.size : Int) - (p.length : Int))).2)
    else (join l (p.take (i - (l.size : Int)).toNat) nil, join nil (p.drop (i - (l.size : Int)).toNat) r)
theorem bytes_split (t : Tr) (i : Int) : (split t i).1.bytes = t.bytes.take i.toNat ∧ (split t i).2.bytes = t.bytes.drop i.toNat := by
  induction t generalizing i with
  | nil => simp [split, bytes]
  | node l p r ihl ihr =>
    have hs : l.size = l.bytes.length := rfl
    unfold split
    split
    · rename_i h1
      obtain ⟨k1, k2⟩ := ihl i
      have hi : i.toNat ≤ l.bytes.length := by omega
      refine ⟨?_, ?_⟩
      · rw [k1]
        simp only [bytes]
        rw [List.append_assoc, List.take_append_of_le_length hi]
      · rw [bytes_join, k2]
        simp only [bytes]
        rw [List.append_assoc, List.append_assoc, List.drop_append_of_le_length hi]
    · rename_i h1
      split
      · rename_i h2
        obtain ⟨k1, k2⟩ := ihr (i - (l.size : Int) - (p.length : Int))
        have hi : i.toNat = l.bytes.length + p.length + (i - (l.size : Int) - (p.length : Int)).toNat := by omega
        have hb : (l.bytes ++ p).length = l.bytes.length + p.length := by simp
        refine ⟨?_, ?_⟩
        · rw [bytes_join, k1]
          simp only [bytes]
          rw [hi, ← hb, List.take_append, List.take_of_length_le (Nat.le_add_right _ _), Nat.add_sub_cancel_left]
        · rw [k2]
          simp only [bytes]
          rw [hi, ← hb, List.drop_append, List.drop_of_length_le (Nat.le_add_right _ _), Nat.add_sub_cancel_left, List.nil_append]
      · rename_i h2
        have hi : i.toNat = l.bytes.length + (i - (l.size : Int)).toNat := by omega
        have hp : (i - (l.size : Int)).toNat ≤ p.length := by omega
        refine ⟨?_, ?_⟩
        · rw [bytes_join]
          simp only [bytes]
          rw [hi]
          generalize (i - (l.size : Int)).toNat = k at hp
          rw [List.append_nil, List.append_assoc, List.take_append, List.take_of_length_le (Nat.le_add_right _ _), Nat.add_sub_cancel_left, List.take_append_of_le_length hp]
        · rw [bytes_join]
          simp only [bytes]
          rw [hi]
          generalize (i - (l.size : Int)).toNat = k at hp
          rw [List.nil_append, List.append_assoc, List.drop_append, List.drop_of_length_le (Nat.le_add_right _ _), Nat.add_sub_cancel_left, List.drop_append_of_le_length hp, List.nil_append]
theorem count_split (t : Tr) (i : Int) : (split t i).1.count + (split t i).2.count ≤ t.count + 1 := by
  induction t generalizing i with
  | nil => simp [split, count]
  | node l p r ihl ihr =>
    unfold split
    split
    · have := ihl i
      simp only [count_join, count]
      omega
    · split
      · have := ihr (i - (l.size : Int) - (p.length : Int))
        simp only [count_join, count]
        omega
      · simp only [count_join, count]
        omega
theorem count_split_low (t : Tr) (i : Int) (h : i ≤ 0) : (split t i).2.count = t.count := by
  induction t with
  | nil => simp [split, count]
  | node l p r ihl _ =>
    unfold split
    rw [if_pos (by omega)]
    simp only [count_join, count, ihl]
theorem full_split {t : Tr} (ht : t.full) (i : Int) : (split t i).1.full ∧ (split t i).2.full := by
  induction t generalizing i with
  | nil => exact ⟨trivial, trivial⟩
  | node l p r ihl ihr =>
    obtain ⟨h1, h2, h3⟩ := ht
    have hp : 0 < p.length := List.length_pos_iff.2 h2
    unfold split
    split
    · exact ⟨(ihl h1 i).1, full_join (ihl h1 i).2 h2 h3⟩
    · split
      · exact ⟨full_join h1 h2 (ihr h3 _).1, (ihr h3 _).2⟩
      · refine ⟨full_join h1 (fun e => ?_) (show full nil from trivial), full_join (show full nil from trivial) (fun e => ?_) h3⟩
        · rcases List.take_eq_nil_iff.1 e with e | e
          · omega
          · exact h2 e
        · have := List.drop_eq_nil_iff.1 e
          omega
theorem avl_split {t : Tr} (ht : t.avl) (i : Int) : (split t i).1.avl ∧ (split t i).2.avl := by
  induction t generalizing i with
  | nil => exact ⟨trivial, trivial⟩
  | node l p r ihl ihr =>
    obtain ⟨h1, h2, _, _⟩ := ht
    unfold split
    split
    · exact ⟨(ihl h1 i).1, (avl_join (ihl h1 i).2 h2).1⟩
    · split
      · exact ⟨(avl_join h1 (ihr h2 _).1).1, (ihr h2 _).2⟩
      · exact ⟨(avl_join h1 (show avl nil from trivial)).1, (avl_join (show avl nil from trivial) h2).1⟩
theorem nil_of_bytes {t : Tr} (ht : t.full) (h : t.bytes = []) : t = nil := by
  cases t with
  | nil => rfl
  | node l p r => exact absurd h (by simp [bytes, ht.2.1])
theorem pos_of_bytes {t : Tr} (h : t.bytes ≠ []) : 1 ≤ t.count := by
  cases t with
  | nil => exact absurd rfl h
  | node l p r => simp [count]
/-- as many pieces at most as there are bytes -/
theorem count_le {t : Tr} (ht : t.full) : t.count ≤ t.size := by
  induction t with
  | nil => simp [count]
  | node l p r ihl ihr =>
    have := List.length_pos_iff.2 ht.2.1
    have := ihl ht.1
    have := ihr ht.2.2
    rw [size_node]
    simp only [count]
    omega
theorem high_le (t : Tr) : t.high ≤ t.count := by
  induction t with
  | nil => simp [high]
  | node l p r ihl ihr => simp only [high, count]; omega
theorem feeds_le (t : Tr) : t.feeds ≤ t.size := List.length_filter_le _ _
/-- the tree behind 'Replace' -/
def repl (t : Tr) (a b : Int) (s : List UInt8) : Tr :=
  if s = [] then concat (split t a).1 (split (split t a).2 (b - a)).2 else join (split t a).1 s (split (split t a).2 (b - a)).2
theorem bytes_repl (t : Tr) (a b : Int) (s : List UInt8) (ha : 0 ≤ a) (hab : a ≤ b) : (repl t a b s).bytes = t.bytes.take a.toNat ++ s ++ t.bytes.drop b.toNat := by
  have e : ((split (split t a).2 (b - a)).2).bytes = t.bytes.drop b.toNat := by
    rw [(bytes_split _ _).2, (bytes_split t a).2, List.drop_drop]
    congr 1
    omega
  unfold repl
  split
  · rename_i hs
    rw [bytes_concat, (bytes_split t a).1, e, hs, List.append_nil]
  · rw [bytes_join, (bytes_split t a).1, e]
theorem full_repl {t : Tr} (ht : t.full) (a b : Int) (s : List UInt8) : (repl t a b s).full := by
  unfold repl
  split
  · exact full_concat (full_split ht a).1 (full_split (full_split ht a).2 _).2
  · rename_i hs
    exact full_join (full_split ht a).1 hs (full_split (full_split ht a).2 _).2
theorem avl_repl {t : Tr} (ht : t.avl) (a b : Int) (s : List UInt8) : (repl t a b s).avl := by
  unfold repl
  split
  · exact avl_concat (avl_split ht a).1 (avl_split (avl_split ht a).2 _).2
  · exact (avl_join (avl_split ht a).1 (avl_split (avl_split ht a).2 _).2).1
theorem count_repl (t : Tr) (a b : Int) (s : List UInt8) (ha : 0 ≤ a) (hb : b ≤ t.size) : (repl t a b s).count ≤ t.count + 2 := by
  have c1 := count_split t a
  have c2 := count_split (split t a).2 (b - a)
  unfold repl
  split
  · rw [count_concat]
    omega
  · rw [count_join]
    by_cases e : b - a ≤ 0
    · rw [count_split_low _ _ e]
      omega
    · have hne : (split (split t a).2 (b - a)).1.bytes ≠ [] := by
        rw [(bytes_split _ _).1, (bytes_split t a).2]
        intro h
        have := congrArg List.length h
        have hs : t.size = t.bytes.length := rfl
        simp at this
        omega
      have := pos_of_bytes hne
      omega
/-- a tree that deep has that many pieces -/
theorem depth_pieces {t : Tr} (ht : t.avl) (h1 : 1 ≤ t.high) : 2 ^ ((t.high - 1) / 2) ≤ t.count := by
  induction h : t.high using Nat.strongRecOn generalizing t with
  | ind n ih =>
    cases t with
    | nil => simp [high] at h1
    | node l p r =>
      obtain ⟨a1, a2, a3, a4⟩ := ht
      simp only [high] at h h1
      simp only [count]
      by_cases hn : n ≤ 2
      · have : (n - 1) / 2 = 0 := by omega
        rw [this]
        simp
      · have hl : 1 ≤ l.high := by omega
        have hr : 1 ≤ r.high := by omega
        have k1 := ih l.high (by omega) a1 hl rfl
        have k2 := ih r.high (by omega) a2 hr rfl
        have e1 : (n - 1) / 2 - 1 ≤ (l.high - 1) / 2 := by omega
        have e2 : (n - 1) / 2 - 1 ≤ (r.high - 1) / 2 := by omega
        have p1 := Nat.pow_le_pow_right (show 0 < 2 by omega) e1
        have p2 := Nat.pow_le_pow_right (show 0 < 2 by omega) e2
        have e3 : 2 ^ ((n - 1) / 2) = 2 * 2 ^ ((n - 1) / 2 - 1) := by
          rw [← Nat.pow_succ']
          congr 1
          omega
        omega
end Tr
end Go.Proofs.Ytbpokgjahlnfhaa
