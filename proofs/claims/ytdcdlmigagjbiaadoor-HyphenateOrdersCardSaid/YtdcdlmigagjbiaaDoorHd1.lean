/- What the rounds of the law's own levels say of the places, plain. -/
import Derived.Test.YtdcdlmigagjbiaaDoorKi
namespace Go.Proofs.YtdcdlmigagjbiaaDoor
def E1 (pats : List Pat) (l : List Int) (i : Nat) (P : Pat) (at_ j : Nat) (y : Int) : Prop := allC (pats.take i) l j y ∨ ∃ a, a < at_ ∧ matchB l P a = true ∧ contr a P j y
def E2 (pats : List Pat) (l : List Int) (i : Nat) (P : Pat) (at_ K j : Nat) (y : Int) : Prop := E1 pats l i P at_ j y ∨ ∃ k, k < K ∧ at_ + k = j ∧ P.levels[k]? = some y
theorem E1_start (pats : List Pat) (l : List Int) (i : Nat) (P : Pat) (j : Nat) (y : Int) : E1 pats l i P 0 j y ↔ allC (pats.take i) l j y := by
  constructor
  · rintro (h | ⟨a, ha, _⟩)
    · exact h
    · cases ha
  · exact .inl
theorem E1_skip {pats : List Pat} {l : List Int} {i : Nat} {P : Pat} {at_ : Nat} (h : matchB l P at_ = false) (j : Nat) (y : Int) : E1 pats l i P at_ j y ↔ E1 pats l i P (at_ + 1) j y := by
  constructor
  · rintro (h | ⟨a, ha, r⟩)
    · exact .inl h
    · exact .inr ⟨a, by omega, r⟩
  · rintro (h' | ⟨a, ha, hm, r⟩)
    · exact .inl h'
    · by_cases e : a = at_
      · rw [e, h] at hm; cases hm
      · exact .inr ⟨a, by omega, hm, r⟩
theorem E1_end {pats : List Pat} {l : List Int} {i : Nat} {P : Pat} {at_ : Nat} (hi : i < pats.length) (hP : pats.getD i .zero = P) (ha : l.length < at_ + (qL P).length) (j : Nat) (y : Int) : E1 pats l i P at_ j y ↔ allC (pats.take (i + 1)) l j y := by
  rw [take_snoc pats .zero i hi, hP]
  constructor
  · rintro (⟨Q, hQ, r⟩ | ⟨a, _, hm, k, h1, h2⟩)
    · exact ⟨Q, List.mem_append_left _ hQ, r⟩
    · exact ⟨P, by simp, a, k, hm, h1, h2⟩
  · rintro ⟨Q, hQ, a, k, hm, h1, h2⟩
    rcases List.mem_append.1 hQ with hQ | hQ
    · exact .inl ⟨Q, hQ, a, k, hm, h1, h2⟩
    · obtain rfl : Q = P := by simpa using hQ
      have := (match_parts hm).1
      exact .inr ⟨a, by omega, hm, k, h1, h2⟩
theorem E2_start (pats : List Pat) (l : List Int) (i : Nat) (P : Pat) (at_ j : Nat) (y : Int) : E2 pats l i P at_ 0 j y ↔ E1 pats l i P at_ j y := by
  constructor
  · rintro (h | ⟨a, ha, _⟩)
    · exact h
    · cases ha
  · exact .inl
theorem E2_step (pats : List Pat) (l : List Int) (i : Nat) (P : Pat) (at_ K : Nat) {x : Int} (hx : P.levels[K]? = some x) (j : Nat) (y : Int) : E2 pats l i P at_ (K + 1) j y ↔ E2 pats l i P at_ K j y ∨ (j = at_ + K ∧ y = x) := by
  constructor
  · rintro (h | ⟨k, hk, h1, h2⟩)
    · exact .inl (.inl h)
    · by_cases e : k = K
      · subst e
        rw [hx] at h2
        exact .inr ⟨h1.symm, (Option.some.inj h2).symm⟩
      · exact .inl (.inr ⟨k, by omega, h1, h2⟩)
  · rintro ((h | ⟨k, hk, h1, h2⟩) | ⟨rfl, rfl⟩)
    · exact .inl h
    · exact .inr ⟨k, by omega, h1, h2⟩
    · exact .inr ⟨K, by omega, rfl, hx⟩
theorem E2_end {pats : List Pat} {l : List Int} {i : Nat} {P : Pat} {at_ : Nat} (hm : matchB l P at_ = true) (j : Nat) (y : Int) : E2 pats l i P at_ P.levels.length j y ↔ E1 pats l i P (at_ + 1) j y := by
  constructor
  · rintro ((h | ⟨a, ha, r⟩) | ⟨k, _, h1, h2⟩)
    · exact .inl h
    · exact .inr ⟨a, by omega, r⟩
    · exact .inr ⟨at_, by omega, hm, k, h1, h2⟩
  · rintro (h | ⟨a, ha, hm', k, h1, h2⟩)
    · exact .inl (.inl h)
    · by_cases e : a = at_
      · subst e
        exact .inr ⟨k, (List.getElem?_eq_some_iff.1 h2).1, h1, h2⟩
      · exact .inl (.inr ⟨a, by omega, hm', k, h1, h2⟩)
theorem allC_none (l : List Int) (j : Nat) (y : Int) : ¬ allC [] l j y := by
  rintro ⟨P, hP, _⟩
  cases hP
/-- the law's test at a place -/
theorem match_test {l : List Int} {P : Pat} {at_ : Nat} (h : at_ + (qL P).length ≤ l.length) : matchB l P at_ = !((P.beg && decide (0 < at_)) || (P.fin && decide (at_ + (qL P).length < l.length)) || !decide ((l.drop at_).take (qL P).length = qL P)) := by
  have e1 : decide (at_ + (ptsI P.letters).length ≤ l.length) = true := decide_eq_true h
  have e2 : (at_ == 0) = !decide (0 < at_) := by cases at_ <;> simp
  have e3 : (at_ + (ptsI P.letters).length == l.length) = !decide (at_ + (qL P).length < l.length) := by
    show (at_ + (qL P).length == l.length) = _
    by_cases e : at_ + (qL P).length = l.length
    · simp [e]
    · have : at_ + (qL P).length < l.length := by omega
      simp [e, this]
  have e4 : ((l.drop at_).take (ptsI P.letters).length == ptsI P.letters) = decide ((l.drop at_).take (qL P).length = qL P) := by
    show (_ == qL P) = _
    by_cases e : (l.drop at_).take (qL P).length = qL P
    · rw [decide_eq_true e, beq_iff_eq]; exact e
    · rw [decide_eq_false e, beq_eq_false_iff_ne]; exact e
  unfold matchB
  rw [e1, e2, e3, e4]
  generalize decide (0 < at_) = a
  generalize decide (at_ + (qL P).length < l.length) = b
  generalize decide ((l.drop at_).take (qL P).length = qL P) = c
  cases P.beg <;> cases P.fin <;> cases a <;> cases b <;> cases c <;> rfl
end Go.Proofs.YtdcdlmigagjbiaaDoor
