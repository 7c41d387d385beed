/- The law's helpers: near, cut, the reference's Replace; known. -/
import Derived.Test.YtbpokgjahlnfhaaPtc
namespace Go.Proofs.Ytbpokgjahlnfhaa
open Go.RowKit Go.Shelf

/-- what near returns -/
def nearP (n : Int) (len : Nat) : Int := if -2 ≤ n ∧ n ≤ (len : Int) + 2 then n else (if n < 0 then -(n + 1) else n).tmod ((len : Int) + 1)
theorem nearP_bd (n : Int) (len : Nat) : -2 ≤ nearP n len ∧ nearP n len ≤ (len : Int) + 2 := by
  unfold nearP
  split
  · assumption
  · have h0 : 0 ≤ (if n < 0 then -(n + 1) else n) := by split <;> omega
    rw [Int.tmod_eq_emod_of_nonneg h0]
    have h1 := Int.emod_nonneg (if n < 0 then -(n + 1) else n) (show ((len : Int) + 1) ≠ 0 by omega)
    have h2 := Int.emod_lt_of_pos (if n < 0 then -(n + 1) else n) (show 0 < ((len : Int) + 1) by omega)
    omega
theorem near_any (n : Int) (len : Nat) (w : World) (hn : -9223372036854775808 ≤ n ∧ n ≤ 9223372036854775807) (hl : len ≤ 300000) :
    Calls Try.prog 16 #[.int .i64 n, .int .i64 (len : Int)] w fun e w' => e = .returned (.int .i64 (nearP n len)) ∧ w = w' := by
  obtain ⟨n1, n2⟩ := hn
  unfold nearP
  have hm0 : ((len : Int) + 1 == 0) = false := by rw [beq_eq_false_iff_ne]; omega
  have hm1 : ((len : Int) + 1 == -1) = false := by rw [beq_eq_false_iff_ne]; omega
  by_cases k1 : -2 ≤ n
  · have d1 : decide (-2 ≤ n) = true := by simpa using k1
    by_cases k2 : n ≤ (len : Int) + 2
    · have d2 : decide (n ≤ (len : Int) + 2) = true := by simpa using k2
      rw [if_pos ⟨k1, k2⟩]
      go_enter Try.func16, Try.ntmps16
      go_wp2
      go_ret
      exact ⟨rfl, rfl⟩
    · have d2 : decide (n ≤ (len : Int) + 2) = false := by simpa using k2
      have d3 : decide (n < 0) = false := by simp; omega
      rw [if_neg (by omega), if_neg (by omega)]
      go_enter Try.func16, Try.ntmps16
      go_wp2
      go_ret
      exact ⟨by rw [Int.tmod_eq_emod_of_nonneg (by omega)]; rfl, rfl⟩
  · have d1 : decide (-2 ≤ n) = false := by simpa using k1
    have d3 : decide (n < 0) = true := by simp; omega
    rw [if_neg (by omega), if_pos (by omega)]
    go_enter Try.func16, Try.ntmps16
    go_wp2
    go_ret
    exact ⟨rfl, rfl⟩

theorem cut_any (s : ByteArray) (w : World) (hs : s.size ≤ maxLen) :
    Calls Try.prog 20 #[.string s] w fun e w' => e = .returned (.string (s.extract 0 (min s.size 300))) ∧ w = w' := by
  unfold maxLen at hs
  go_enter Try.func20, Try.ntmps20
  go_wp2
  go_ret
  exact ⟨by rw [show (min (s.size : Int) 300).toNat = min s.size 300 from by omega]; rfl, rfl⟩

/-- what the reference's Replace returns -/
def refRep (t : ByteArray) (a b : Int) (s : ByteArray) : ByteArray × Nat :=
  if a < 0 ∨ b < a ∨ (t.size : Int) < b then (t, 2) else if (65536 : Int) < (t.size : Int) - (b - a) + (s.size : Int) then (t, 10) else (t.extract 0 a.toNat ++ s ++ t.extract b.toNat t.size, 0)
theorem rrep_any (t : ByteArray) (a b : Int) (s : ByteArray) (w : World) (ht : t.size ≤ 300000) (hs : s.size ≤ 300000) :
    Calls Try.prog 27 #[.string t, .int .i64 a, .int .i64 b, .string s] w fun e w' => e = .returned (.tuple #[.string (refRep t a b s).1, .int .i64 ((refRep t a b s).2 : Int)]) ∧ ∃ n, w' = w.drewN n := by
  unfold refRep
  by_cases k1 : a < 0
  · have d1 : decide (a < 0) = true := by simpa using k1
    rw [if_pos (by omega)]
    go_enter Try.func27, Try.ntmps27
    go_wp2
    go_ret2
    exact ⟨rfl, 0, rfl⟩
  · have d1 : decide (a < 0) = false := by simpa using k1
    by_cases k2 : b < a
    · have d2 : decide (b < a) = true := by simpa using k2
      rw [if_pos (by omega)]
      go_enter Try.func27, Try.ntmps27
      go_wp2
      go_ret2
      exact ⟨rfl, 0, rfl⟩
    · have d2 : decide (b < a) = false := by simpa using k2
      by_cases k3 : (t.size : Int) < b
      · have d3 : decide ((t.size : Int) < b) = true := by simpa using k3
        rw [if_pos (by omega)]
        go_enter Try.func27, Try.ntmps27
        go_wp2
        go_ret2
        exact ⟨rfl, 0, rfl⟩
      · have d3 : decide ((t.size : Int) < b) = false := by simpa using k3
        rw [if_neg (by omega)]
        obtain ⟨x, rfl⟩ := Int.eq_ofNat_of_zero_le (show 0 ≤ a by omega)
        obtain ⟨y, rfl⟩ := Int.eq_ofNat_of_zero_le (show 0 ≤ b by omega)
        have hxy : x ≤ y := by omega
        have hyt : y ≤ t.size := by omega
        by_cases k4 : (65536 : Int) < (t.size : Int) - ((y : Int) - (x : Int)) + (s.size : Int)
        · have d4 : decide ((65536 : Int) < (t.size : Int) - ((y : Int) - (x : Int)) + (s.size : Int)) = true := by simpa using k4
          rw [if_pos k4]
          clear k4 k1 k2 k3
          go_enter Try.func27, Try.ntmps27
          go_wp2
          go_ret2
          exact ⟨rfl, 0, rfl⟩
        · have d4 : decide ((65536 : Int) < (t.size : Int) - ((y : Int) - (x : Int)) + (s.size : Int)) = false := by simpa using k4
          rw [if_neg k4]
          rw [Int.toNat_natCast, Int.toNat_natCast]
          clear k4 k1 k2 k3
          go_enter Try.func27, Try.ntmps27
          go_wp2
          go_quiet (fail)
          go_wp2
          go_ret2
          exact ⟨rfl, _, rfl⟩
end Go.Proofs.Ytbpokgjahlnfhaa
