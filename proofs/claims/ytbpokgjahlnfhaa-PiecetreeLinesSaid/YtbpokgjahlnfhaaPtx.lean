/- The parts of a tree between two offsets, plain. -/
import Derived.Test.YtbpokgjahlnfhaaPtq
namespace Go.Proofs.Ytbpokgjahlnfhaa
namespace Tr
def vis : Tr → Int → Int → List (List UInt8)
  | nil, _, _ => []
  | node l p r, f, t =>
    if t ≤ f ∨ t ≤ 0 ∨ ((node l p r).size : Int) ≤ f then [] else
      vis l f (min t (l.size : Int)) ++ ((if max (f - (l.size : Int)) 0 < min (t - (l.size : Int)) (p.length : Int) then [(p.take (min (t - (l.size : Int)) (p.length : Int)).toNat).drop (max (f - (l.size : Int)) 0).toNat] else []) ++
        vis r (max (f - ((l.size : Int) + (p.length : Int))) 0) (t - ((l.size : Int) + (p.length : Int))))
theorem seg_append (A B : List UInt8) (n f : Nat) : ((A ++ B).take n).drop f = (A.take n).drop f ++ (B.take (n - A.length)).drop (f - A.length) := by
  rw [List.take_append, List.drop_append]
  congr 1
  rw [List.length_take]
  by_cases h : A.length ≤ n
  · rw [Nat.min_eq_right h]
  · have : n - A.length = 0 := by omega
    rw [this]
    simp
theorem vis_bytes (t : Tr) (f to : Int) : (vis t f to).flatten = (t.bytes.take to.toNat).drop f.toNat := by
  induction t generalizing f to with
  | nil => simp [vis, bytes]
  | node l p r ihl ihr =>
    unfold vis
    have hs : l.size = l.bytes.length := rfl
    split
    · rename_i h
      symm
      rw [List.flatten_nil, List.drop_eq_nil_iff, List.length_take]
      have : (node l p r).size = (node l p r).bytes.length := rfl
      omega
    · rename_i h
      rw [List.flatten_append, List.flatten_append, ihl, ihr]
      have hb : (node l p r).bytes = l.bytes ++ (p ++ r.bytes) := by simp [bytes]
      rw [hb, seg_append, seg_append]
      congr 1
      · have e : (min to (l.size : Int)).toNat = min to.toNat l.bytes.length := by omega
        rw [e]
        rcases Nat.le_total to.toNat l.bytes.length with h1 | h1
        · rw [Nat.min_eq_left h1]
        · rw [Nat.min_eq_right h1, List.take_of_length_le (Nat.le_refl _), List.take_of_length_le h1]
      · congr 1
        · split
          · rename_i h2
            rw [List.flatten_cons, List.flatten_nil, List.append_nil]
            have e1 : (max (f - (l.size : Int)) 0).toNat = f.toNat - l.bytes.length := by omega
            have e2 : (min (to - (l.size : Int)) (p.length : Int)).toNat = min (to.toNat - l.bytes.length) p.length := by omega
            rw [e1, e2]
            rcases Nat.le_total (to.toNat - l.bytes.length) p.length with h1 | h1
            · rw [Nat.min_eq_left h1]
            · rw [Nat.min_eq_right h1, List.take_of_length_le (Nat.le_refl _), List.take_of_length_le h1]
          · rename_i h2
            symm
            rw [List.flatten_nil, List.drop_eq_nil_iff, List.length_take]
            omega
        · have e1 : (max (f - ((l.size : Int) + (p.length : Int))) 0).toNat = f.toNat - l.bytes.length - p.length := by omega
          have e2 : (to - ((l.size : Int) + (p.length : Int))).toNat = to.toNat - l.bytes.length - p.length := by omega
          rw [e1, e2]
theorem vis_len (t : Tr) (f to : Int) : (vis t f to).length ≤ t.count := by
  induction t generalizing f to with
  | nil => simp [vis]
  | node l p r ihl ihr =>
    unfold vis
    split
    · simp
    · have h1 := ihl f (min to (l.size : Int))
      have h2 := ihr (max (f - ((l.size : Int) + (p.length : Int))) 0) (to - ((l.size : Int) + (p.length : Int)))
      rw [List.length_append, List.length_append]
      simp only [count]
      split <;> (simp; omega)
theorem vis_full (t : Tr) (f to : Int) : ∀ x ∈ vis t f to, x ≠ [] := by
  induction t generalizing f to with
  | nil => simp [vis]
  | node l p r ihl ihr =>
    unfold vis
    split
    · simp
    · intro x hx
      rcases List.mem_append.1 hx with hx | hx
      · exact ihl _ _ x hx
      · rcases List.mem_append.1 hx with hx | hx
        · split at hx
          · rename_i h2
            rw [List.mem_singleton] at hx
            subst hx
            intro e
            rw [List.drop_eq_nil_iff, List.length_take] at e
            omega
          · simp at hx
        · exact ihr _ _ x hx
end Tr
def estr (x : List UInt8) : Value := .string ⟨x.toArray⟩
end Go.Proofs.Ytbpokgjahlnfhaa
