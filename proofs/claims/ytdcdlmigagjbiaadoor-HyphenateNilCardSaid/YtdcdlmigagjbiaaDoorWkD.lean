/- The walks of IsPoint, At, and the law's cut and same. -/
import Derived.Test.YtdcdlmigagjbiaaDoorWkC
namespace Go.Proofs.YtdcdlmigagjbiaaDoor
open Go.RowKit
def isPtI (p : Int) : Bool := decide (0 ≤ p) && U.isPt p.toNat
theorem isPtI_iff (p : Int) : isPtI p = true ↔ 0 ≤ p ∧ p ≤ 1114111 ∧ ¬ (55296 ≤ p ∧ p ≤ 57343) := by
  unfold isPtI; rw [Bool.and_eq_true, U.isPt_iff, decide_eq_true_eq]; omega
theorem isPtI_false (p : Int) : isPtI p = false ↔ ¬ (0 ≤ p ∧ p ≤ 1114111 ∧ ¬ (55296 ≤ p ∧ p ≤ 57343)) := by
  rw [← isPtI_iff]; simp
set_option maxRecDepth 100000 in
set_option maxHeartbeats 400000 in
theorem isPoint_any (p : Int) (w : World) :
    Calls Tryd.prog 54 #[.int .i64 p] w fun e w' => e = .returned (.bool (isPtI p)) ∧ w = w' := by
  have yes := fun h => Lib.hid ((isPtI_iff p).2 h)
  have no := fun h => Lib.hid ((isPtI_false p).2 h)
  rcases (by omega : p < 0 ∨ 1114111 < p ∨ (0 ≤ p ∧ p < 55296) ∨ (55296 ≤ p ∧ p ≤ 57343) ∨ (57343 < p ∧ p ≤ 1114111)) with h | h | ⟨h, h'⟩ | ⟨h, h'⟩ | ⟨h, h'⟩
  case inl | inr.inl =>
    have no := no (by omega)
    clear yes
    go_enter Tryd.func54, Tryd.ntmps54
    go_wp2
    go_ret
    exact ⟨by rw [no.out]; rfl, rfl⟩
  case inr.inr.inl | inr.inr.inr.inr =>
    have yes := yes (by omega)
    clear no
    have hq : (p / 2048 != 27) = true := by rw [bne_iff_ne]; omega
    go_enter Tryd.func54, Tryd.ntmps54
    go_wp2
    go_ret
    exact ⟨by rw [yes.out]; rfl, rfl⟩
  case inr.inr.inr.inl =>
    have no := no (by omega)
    clear yes
    have hq : (p / 2048 != 27) = false := by rw [bne_eq_false_iff_eq]; omega
    go_enter Tryd.func54, Tryd.ntmps54
    go_wp2
    go_ret
    exact ⟨by rw [no.out]; rfl, rfl⟩
/-- what At returns -/
def atP (l : List UInt8) (o : Int) : Nat × Nat × Int :=
  if o < 0 ∨ (l.length : Int) ≤ o then (0, 0, 2) else if (U.dec (l.drop o.toNat)).2.2 then ((U.dec (l.drop o.toNat)).1, (U.dec (l.drop o.toNat)).2.1, 0) else (0, 0, 12)
theorem at_out (l : List UInt8) (o : Int) (h : o < 0 ∨ (l.length : Int) ≤ o) : atP l o = (0, 0, 2) := by unfold atP; rw [if_pos h]
theorem at_in (s : ByteArray) (k : Nat) (hk : k < s.size) : atP s.data.toList k = if (U.dec (s.data.toList.drop k)).2.2 then ((U.dec (s.data.toList.drop k)).1, (U.dec (s.data.toList.drop k)).2.1, 0) else (0, 0, 12) := by
  unfold atP
  have : s.data.toList.length = s.size := by simp
  rw [if_neg (by omega), Int.toNat_natCast]
theorem ret3 {a b : Nat} {c : Int} {t : Nat × Nat × Int} (h : t = (a, b, c)) : Ending.returned (.tuple #[.int .i64 a, .int .i64 b, .int .i64 c]) = .returned (.tuple #[.int .i64 t.1, .int .i64 t.2.1, .int .i64 t.2.2]) := by rw [h]
/-- the law's limit on a string -/
def cutS (s : ByteArray) : ByteArray := if s.size ≤ 300 then s else s.extract 0 300
theorem size_cutS (s : ByteArray) : (cutS s).size ≤ 300 := by
  unfold cutS
  split
  · assumption
  · simp; omega
theorem ret_cut {s t : ByteArray} (h : cutS s = t) : Ending.returned (.string t) = .returned (.string (cutS s)) := by rw [h]
end Go.Proofs.YtdcdlmigagjbiaaDoor
