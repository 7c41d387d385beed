/- Slices of ints in memory that are read; what stays behind a call that only makes memory. Nothing of the program stands here. -/
import Derived.WalkKit
import Derived.WalkSpells
import Derived.WalkSmall
import Derived.Lib.BufferRead
import Derived.Lib.UnsafeStr
import Derived.Lib.Hide
namespace Go.Proofs.YtfdnpchbbngpjaaGreat
open Go.RowKit

/-- the value is a slice that reads as the list -/
def Ints (w : World) (v : Value) (l : List Int) : Prop :=
  ∃ ao cap, v = .slice ao l.length cap ∧ l.length ≤ cap ∧ cap ≤ maxLen ∧ (0 < l.length → ∃ b off, ao = some ⟨b, off, none⟩ ∧ b < w.heap.size ∧ ∀ j, j < l.length → w.cell? ⟨b, off + j, none⟩ = some (.int .i64 (l.getD j 0)))

theorem Ints.below {w w' : World} {v : Value} {l : List Int} (h : Ints w v l) (hb : Below w.heap.size w w') : Ints w' v l := by
  obtain ⟨ao, cap, h1, h2, h3, h4⟩ := h
  refine ⟨ao, cap, h1, h2, h3, fun hl => ?_⟩
  obtain ⟨b, off, e, hlt, hc⟩ := h4 hl
  exact ⟨b, off, e, Nat.lt_of_lt_of_le hlt hb.size, fun j hj => by rw [hb.cell (p := ⟨b, off + j, none⟩) hlt]; exact hc j hj⟩

theorem Ints.of_owns {w : World} {base e : Nat} {v : Value} {n : Nat} {l : List Int} (h : w.ownsRow base e 1 v n (l.map (Value.int .i64))) : Ints w v l := by
  obtain ⟨hl, h⟩ := h
  rw [List.length_map, Nat.mul_one] at hl
  subst hl
  rcases h with ⟨rfl, h0⟩ | ⟨g, cap, cur, rfl, hg, hh, hn, hc, hs, ht⟩
  · exact ⟨none, 0, by rw [h0], by omega, by unfold maxLen; omega, fun h => by omega⟩
  · refine ⟨some ⟨g, 0, none⟩, cap, rfl, hn, hc, fun _ => ⟨g, 0, rfl, ?_, fun j hj => ?_⟩⟩
    · exact (Array.getElem?_eq_some_iff.1 hh).1
    · have hown : w.ownsRow base e 1 (.slice (some ⟨g, 0, none⟩) l.length cap) l.length (l.map (Value.int .i64)) := ⟨by simp, Or.inr ⟨g, cap, cur, rfl, hg, hh, hn, hc, hs, ht⟩⟩
      rw [Nat.zero_add, hown.cellAt j (by omega)]
      simp [List.getElem?_eq_getElem hj]

theorem Ints.shape {w : World} {v : Value} {l : List Int} (h : Ints w v l) : ∃ ao cap, v = .slice ao l.length cap := by
  obtain ⟨ao, cap, h1, _⟩ := h; exact ⟨ao, cap, h1⟩

/-- what an append of one element to a row of the call's own leaves -/
theorem rel_append {W w w1 : World} {e B : Nat} {v v' : Value} {n : Nat} {xs : List Value} {x : Value} {o : Obj} (hB : B ≤ w.heap.size) (hown : w.ownsRow B e 1 v n xs) (hb : Below B W w)
    (hown' : w1.ownsRow B e 1 v' (n + 1) (xs ++ [x])) (hg : (w.alloc o).grownBy w1 v.ownBlock) : w1.ownsRow B e 1 v' (n + 1) (xs ++ [x]) ∧ Below B W w1 := by
  refine ⟨hown', (hb.alloc hB o).grown hg (by simp; omega) fun k hk => ?_⟩
  rcases hown.2 with ⟨h1, _⟩ | ⟨g, cap, cur, h1, hle, _⟩
  · rw [h1] at hk; simp [Value.ownBlock] at hk
  · rw [h1] at hk; simp [Value.ownBlock] at hk; omega

/-- what an append of some elements to a row of the call's own leaves -/
theorem rel_appendN {W w w1 : World} {e B : Nat} {v : Value} {n : Nat} {xs : List Value} {o : Obj} (hB : B ≤ w.heap.size) (hown : w.ownsRow B e 1 v n xs) (hb : Below B W w) (hg : (w.alloc o).grownBy w1 v.ownBlock) : Below B W w1 := by
  refine (hb.alloc hB o).grown hg (by simp; omega) fun k hk => ?_
  rcases hown.2 with ⟨h1, _⟩ | ⟨g, cap, cur, h1, hle, _⟩
  · rw [h1] at hk; simp [Value.ownBlock] at hk
  · rw [h1] at hk; simp [Value.ownBlock] at hk; omega

/-- 'string(b)' of a row of the call's own -/
theorem conv_owned {P : Program} {w : World} {src dst e base : Nat} {v : Value} {n : Nat} {l : List UInt8} (hs : P.underlying src = some (.slice e)) (he : P.underlying e = some (.int .u8)) (hd : P.underlying dst = some .string)
    (h : w.ownsRow base e 1 v n (Lib.byteCells l)) : (convert src dst v).run P w = .ok (.string ⟨l.toArray⟩) w := by
  obtain ⟨hl, h⟩ := h
  rw [Lib.byteCells_length, Nat.mul_one] at hl
  subst hl
  rcases h with ⟨rfl, h0⟩ | ⟨g, cap, cur, rfl, hg, hh, hn, hc, hs', ht⟩
  · have : l = [] := List.length_eq_zero_iff.1 h0
    subst this
    exact Lib.run_convert_nil_bytes w src dst e 0 hs he hd
  · rw [Nat.mul_one] at ht
    exact run_convert_bytes_back w src dst e ⟨g, 0, none⟩ cap l hs he hd (Lib.bytes_of_row hh ht)

/-- a read of an argument's or an earlier result's element, in a later world -/
theorem Ints.open {w : World} {v : Value} {l : List Int} (h : Ints w v l) : (l = [] ∧ ∃ ao cap, v = .slice ao 0 cap) ∨
    (0 < l.length ∧ ∃ b off cap, v = .slice (some ⟨b, off, none⟩) l.length cap ∧ l.length ≤ cap ∧ cap ≤ maxLen ∧ b < w.heap.size ∧ ∀ j, j < l.length → w.cell? ⟨b, off + j, none⟩ = some (.int .i64 (l.getD j 0))) := by
  obtain ⟨ao, cap, h1, h2, h3, h4⟩ := h
  cases l with
  | nil => exact Or.inl ⟨rfl, ao, cap, h1⟩
  | cons x r =>
    obtain ⟨b, off, e, hlt, hc⟩ := h4 (by simp)
    exact Or.inr ⟨by simp, b, off, cap, by rw [h1, e], h2, h3, hlt, hc⟩
end Go.Proofs.YtfdnpchbbngpjaaGreat
