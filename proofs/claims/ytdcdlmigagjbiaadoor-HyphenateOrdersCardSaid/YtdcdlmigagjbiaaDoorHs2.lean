/- The law's parse walked. -/
import Derived.Test.YtdcdlmigagjbiaaDoorHs1
import Derived.Deep.RegionHeld3
import Derived.Deep.QuietTactic
import Derived.IntWalk
import Derived.OneCell
namespace Go.Proofs.YtdcdlmigagjbiaaDoor
open Go.RowKit Go.Maps
/-- what the law's parse returns -/
def par2 (s : List UInt8) : Pat × Bool := if (U.bad s).isEmpty = false then (.zero, false) else (patOf (ptsI s), decide (printP (patOf (ptsI s)) = (0, s)))
def Par2Post (s : List UInt8) (w : World) (e : Ending) (w' : World) : Prop :=
  ∃ pv, e = .returned (.tuple #[patV (par2 s).1 pv, .bool (par2 s).2]) ∧ Below w.heap.size w w' ∧ IntRow w' w.heap.size pv (par2 s).1.levels
theorem par2Post {s : List UInt8} {w w' : World} {P : Pat} {b : Bool} {pv : Value} (h : par2 s = (P, b)) (hb : Below w.heap.size w w') (hv : IntRow w' w.heap.size pv P.levels) :
    Par2Post s w (.returned (.tuple #[patV P pv, .bool b])) w' := ⟨pv, by rw [h], hb, by rw [h]; exact hv⟩
theorem par2_bad {s : List UInt8} (h : (U.bad s).isEmpty = false) : par2 s = (.zero, false) := by unfold par2; rw [if_pos h]
theorem par2_ok {s : List UInt8} (h : (U.bad s).isEmpty = true) : par2 s = (patOf (ptsI s), decide (printP (patOf (ptsI s)) = (0, s))) := by unfold par2; rw [if_neg (by rw [h]; simp)]
theorem parse_par2 (s : List UInt8) : (parseP s).1 = 0 ↔ (par2 s).2 = true := by
  unfold parseP par2
  by_cases h : (U.bad s).isEmpty = false
  · rw [if_pos h, if_pos h]; simp
  · rw [if_neg h, if_neg h]
    by_cases h2 : printP (patOf (ptsI s)) = (0, s)
    · rw [if_pos h2]; simp [h2]
    · rw [if_neg h2]; simp [h2]
theorem parse_par2_eq {s : List UInt8} (h : (par2 s).2 = true) : parseP s = (0, (par2 s).1) := by
  have h1 := (parse_par2 s).2 h
  unfold par2 at h ⊢
  by_cases h2 : (U.bad s).isEmpty = false
  · rw [if_pos h2] at h; cases h
  · rw [if_neg h2] at h ⊢
    exact parseP_ok (by simpa using h2) (by simpa using h)
theorem below_drew {B : Nat} {a w : World} (h : Below B a w) : Below B a w.drew := ⟨h.os, h.tape, h.output, h.size, h.block⟩
/-- the last element of a row written anew -/
theorem row_setlast {w : World} {B g cap : Nat} {ll levels : List Int} {lv : Int} (hll : levels ++ [lv] = ll) (h : IntRow w B (.slice (some ⟨g, 0, none⟩) ll.length cap) ll) (z : Int) :
    IntRow (w.setCell ⟨g, levels.length, none⟩ (.int .i64 z)) B (.slice (some ⟨g, 0, none⟩) (levels ++ [z]).length cap) (levels ++ [z]) := by
  have h1 := (World.ownsRow.stored h levels.length (.int .i64 z)).1
  have h2 : (ll.map (Value.int .i64)).set levels.length (.int .i64 z) = (levels ++ [z]).map (Value.int .i64) := by
    rw [← hll, List.map_append, List.map_append, List.set_append_right _ _ (by simp)]
    simp
  rw [h2] at h1
  have h3 : (levels ++ [z]).length = ll.length := by rw [← hll]; simp
  unfold IntRow
  rw [h3]
  exact h1
/-- a region that appends to a row, in whatever order it runs: it ends in one way -/
theorem region_app {P : Program} {c : Code} {Q : Exit → Act → World → Prop} {a : Act} {w : World} {A : Nat → Nat → Act} {W : Nat → Nat → World → World} {R : Nat → Nat → World → Prop}
    (h1 : c.wp P (fun e a' w' => match e with | .normal => ∃ g cap w7, a' = A g cap ∧ w' = W g cap w7 ∧ R g cap w7 | _ => False) a w) (h2 : ∀ g cap w7, R g cap w7 → Q .normal (A g cap) (W g cap w7)) : c.wp P Q a w :=
  Code.wp_mono (fun e a' w' h => by
    cases e <;> first | exact (h : False).elim | (obtain ⟨g, cap, w7, rfl, rfl, hr⟩ := h; exact h2 g cap w7 hr)) h1
/-- a zero appended to a row, the row stored into a pattern at another block -/
theorem row_zero {w1 w6 w7 : World} {B g g2 q n cap cap2 : Nat} {xs : List Value} {u u2 : Value} {o : Obj} (hown : w7.ownsRow B 3 1 (.slice (some ⟨g2, 0, none⟩) (n + 1) cap2) (n + 1) (xs ++ [.int .i64 0]))
    (hg : (w6.alloc o).drew.grownBy w7 (Value.slice (some ⟨g, 0, none⟩) n cap).ownBlock) (hat : (Value.slice (some ⟨g, 0, none⟩) n cap).ownBlock = some g2 ∨ g2 = w6.heap.size + 1) (hb : Below B w1 w6) (hB : B ≤ w6.heap.size) (hgB : B ≤ g) (hq : B ≤ q) (hq2 : q < w6.heap.size) (hne : (Value.slice (some ⟨g, 0, none⟩) n cap).ownBlock ≠ some q) :
    Below B w1 ((w7.setCell ⟨q, 0, none⟩ u).setCell ⟨q, 1, none⟩ u2) ∧ (Value.slice (some ⟨g2, 0, none⟩) (n + 1) cap2).ownBlock ≠ some q ∧ ((w7.setCell ⟨q, 0, none⟩ u).setCell ⟨q, 1, none⟩ u2).ownsRow B 3 1 (.slice (some ⟨g2, 0, none⟩) (n + 1) cap2) (n + 1) (xs ++ [.int .i64 0]) := by
  have hne2 : (Value.slice (some ⟨g2, 0, none⟩) (n + 1) cap2).ownBlock ≠ some q := by
    intro e
    simp [Value.ownBlock] at e hne hat
    rcases hat with h | h <;> omega
  have hg' : (w6.alloc o).grownBy w7 (Value.slice (some ⟨g, 0, none⟩) n cap).ownBlock := ⟨hg.os, hg.tape, hg.output, hg.size, hg.block⟩
  have h1 : Below B w1 w7 := (hb.alloc hB o).grown hg' (by simp; omega) (fun k hk => by simp [Value.ownBlock] at hk; omega)
  refine ⟨(h1.setCell (p := ⟨q, 0, none⟩) hq _).setCell (p := ⟨q, 1, none⟩) hq _, hne2, ?_⟩
  exact ownsRow_setCell_other (ownsRow_setCell_other hown (a := ⟨q, 0, none⟩) hne2 _) (a := ⟨q, 1, none⟩) hne2 _
end Go.Proofs.YtdcdlmigagjbiaaDoor
