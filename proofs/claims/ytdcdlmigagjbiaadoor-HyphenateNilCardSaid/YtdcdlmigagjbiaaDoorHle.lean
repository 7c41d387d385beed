/- letter walked, of the program and of the law. -/
import Derived.Test.YtdcdlmigagjbiaaDoorHtq
import Derived.Outline
namespace Go.Proofs.YtdcdlmigagjbiaaDoor
open Go.RowKit
theorem letC_no {p : Int} (h : ¬ (32 < p ∧ p ≠ 46 ∧ p ≠ 45 ∧ ¬ (48 ≤ p ∧ p ≤ 57))) : letC p = false := by
  cases hh : letC p with
  | false => rfl
  | true => exact absurd (letC_num hh) h
theorem letC_yes {p : Int} (h : 32 < p ∧ p ≠ 46 ∧ p ≠ 45 ∧ ¬ (48 ≤ p ∧ p ≤ 57)) : letC p = true := by
  unfold letC
  simp only [Bool.and_eq_true, decide_eq_true_eq, Bool.not_eq_true', beq_eq_false_iff_ne, Bool.and_eq_false_iff, decide_eq_false_iff_not]
  omega
theorem letter_any (p : Int) (w : World) : Calls Tryd.prog 52 #[.int .i64 p] w fun e w' => e = .returned (.bool (letC p)) ∧ w = w' := by
  by_cases h1 : 32 < p
  · have d1 : decide (32 < p) = true := by simpa using h1
    by_cases h2 : p = 46
    · subst h2
      go_enter Tryd.func52, Tryd.ntmps52
      go_wp2
      go_ret
      exact ⟨rfl, rfl⟩
    · have d2 : (p != 46) = true := by simpa using h2
      by_cases h3 : p = 45
      · subst h3
        go_enter Tryd.func52, Tryd.ntmps52
        go_wp2
        go_ret
        exact ⟨rfl, rfl⟩
      · have d3 : (p != 45) = true := by simpa using h3
        by_cases h4 : p < 48
        · have d4 : decide (p < 48) = true := by simpa using h4
          have HV := Lib.hid (letC_yes (p := p) (by omega))
          clear h1 h2 h3 h4
          go_enter Tryd.func52, Tryd.ntmps52
          go_wp2
          go_ret
          exact ⟨by rw [HV.out]; rfl, rfl⟩
        · have d4 : decide (p < 48) = false := by simpa using h4
          by_cases h6 : 57 < p
          · have d6 : decide (57 < p) = true := by simpa using h6
            have HV := Lib.hid (letC_yes (p := p) (by omega))
            clear h1 h2 h3 h4 h6
            go_enter Tryd.func52, Tryd.ntmps52
            go_wp2
            go_ret
            exact ⟨by rw [HV.out]; rfl, rfl⟩
          · have d6 : decide (57 < p) = false := by simpa using h6
            have HV := Lib.hid (letC_no (p := p) (by omega))
            clear h1 h2 h3 h4 h6
            go_enter Tryd.func52, Tryd.ntmps52
            go_wp2
            go_ret
            exact ⟨by rw [HV.out]; rfl, rfl⟩
  · have d1 : decide (32 < p) = false := by simpa using h1
    have HV := Lib.hid (letC_no (p := p) (by omega))
    clear h1
    go_enter Tryd.func52, Tryd.ntmps52
    go_wp2
    go_ret
    exact ⟨by rw [HV.out]; rfl, rfl⟩
theorem letter2_any (p : Int) (w : World) : Calls Tryd.prog 48 #[.int .i64 p] w fun e w' => e = .returned (.bool (letC p)) ∧ w = w' := by
  by_cases h1 : 32 < p
  · have d1 : decide (32 < p) = true := by simpa using h1
    by_cases h2 : p = 46
    · subst h2
      go_enter Tryd.func48, Tryd.ntmps48
      go_wp2
      go_ret
      exact ⟨rfl, rfl⟩
    · have d2 : (p != 46) = true := by simpa using h2
      by_cases h3 : p = 45
      · subst h3
        go_enter Tryd.func48, Tryd.ntmps48
        go_wp2
        go_ret
        exact ⟨rfl, rfl⟩
      · have d3 : (p != 45) = true := by simpa using h3
        by_cases h4 : p < 48
        · have d4 : decide (p < 48) = true := by simpa using h4
          have HV := Lib.hid (letC_yes (p := p) (by omega))
          clear h1 h2 h3 h4
          go_enter Tryd.func48, Tryd.ntmps48
          go_wp2
          go_ret
          exact ⟨by rw [HV.out]; rfl, rfl⟩
        · have d4 : decide (p < 48) = false := by simpa using h4
          by_cases h6 : 57 < p
          · have d6 : decide (57 < p) = true := by simpa using h6
            have HV := Lib.hid (letC_yes (p := p) (by omega))
            clear h1 h2 h3 h4 h6
            go_enter Tryd.func48, Tryd.ntmps48
            go_wp2
            go_ret
            exact ⟨by rw [HV.out]; rfl, rfl⟩
          · have d6 : decide (57 < p) = false := by simpa using h6
            have HV := Lib.hid (letC_no (p := p) (by omega))
            clear h1 h2 h3 h4 h6
            go_enter Tryd.func48, Tryd.ntmps48
            go_wp2
            go_ret
            exact ⟨by rw [HV.out]; rfl, rfl⟩
  · have d1 : decide (32 < p) = false := by simpa using h1
    have HV := Lib.hid (letC_no (p := p) (by omega))
    clear h1
    go_enter Tryd.func48, Tryd.ntmps48
    go_wp2
    go_ret
    exact ⟨by rw [HV.out]; rfl, rfl⟩
end Go.Proofs.YtdcdlmigagjbiaaDoor
