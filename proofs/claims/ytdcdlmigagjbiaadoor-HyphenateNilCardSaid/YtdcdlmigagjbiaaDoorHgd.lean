/- A hyphenator without error is good. -/
import Derived.Test.YtdcdlmigagjbiaaDoorHpd
namespace Go.Proofs.YtdcdlmigagjbiaaDoor
theorem dash_len : ∀ (l : List Int) (n : Nat), (dash n l).length ≤ l.length
  | [], n => by simp [dash]
  | c :: r, n => by
    have h1 := dash_len r n
    have h2 := dash_len r (n + 1)
    unfold dash
    split <;> simp <;> omega
theorem exP_plen (t : List UInt8) : (exP t).2.1.length ≤ t.length := by
  rw [exP_eq]
  split
  · have h1 := dash_len (ptsI t) 0
    have h2 : (ptsI t).length ≤ t.length := pts_len0 ⟨t.toArray⟩
    exact Nat.le_trans h1 h2
  · exact Nat.zero_le _
theorem newE_zero {pats exs : List (List UInt8)} {left right : Int} (h : newE pats exs left right = 0) : pats.length ≤ 4096 ∧ exs.length ≤ 4096 ∧ fe pats = 0 ∧ exBad exs = false ∧ dupB exs = false ∧ rangeB left right = false := by
  unfold newE at h
  split at h
  · cases h
  rename_i h1
  split at h
  · rename_i h2; exact absurd h h2
  rename_i h2
  split at h
  · cases h
  rename_i h3
  split at h
  · cases h
  rename_i h4
  split at h
  · cases h
  rename_i h5
  exact ⟨by omega, by omega, by simpa using h2, by simpa using h3, by simpa using h4, by simpa using h5⟩
theorem fe_zero : ∀ {l : List (List UInt8)}, fe l = 0 → ∀ s, s ∈ l → (parseP s).1 = 0
  | x :: r, h, s, hs => by
    unfold fe at h
    split at h
    · rename_i h1; exact absurd h h1
    · rename_i h1
      rcases List.mem_cons.1 hs with rfl | hs
      · simpa using h1
      · exact fe_zero h s hs
theorem printP_lv {P : Pat} {t : List UInt8} (h : printP P = (0, t)) : P.levels.length = (ptsI P.letters).length + 1 := by
  unfold printP at h
  split at h
  · cases h
  split at h
  · cases h
  split at h
  · cases h
  split at h
  · cases h
  split at h
  · cases h
  rename_i h5
  simpa using h5
theorem patOk_of {s : List UInt8} (h : (parseP s).1 = 0) : PatOk (parseP s).2 := by
  obtain ⟨h1, _, _, h4⟩ := parseP_zero h
  exact ⟨Nat.pos_of_ne_zero h4, printP_lv h1⟩
theorem exLook_mem {exs : List (List UInt8 × List Int)} {t : List UInt8} {p : List Int} (h : exLook exs t = some p) : (t, p) ∈ exs := by
  induction exs with
  | nil => cases h
  | cons x r ih =>
    have h' : (match exLook r t with | some q => some q | none => if x.1 = t then some x.2 else none) = some p := h
    cases hh : exLook r t with
    | some q =>
      rw [hh] at h' ih
      exact List.mem_cons_of_mem _ (ih h')
    | none =>
      rw [hh] at h'
      by_cases e : x.1 = t
      · simp only [if_pos e] at h'
        obtain rfl := Option.some.inj h'
        rw [← e]
        exact List.mem_cons_self
      · simp only [if_neg e] at h'
        cases h'
theorem rangeB_no {left right : Int} (h : rangeB left right = false) : 1 ≤ left ∧ left ≤ 64 ∧ 1 ≤ right ∧ right ≤ 64 := by
  unfold rangeB at h
  simp only [Bool.or_eq_false_iff, decide_eq_false_iff_not] at h
  omega
theorem good_new {pats exs : List (List UInt8)} {left right : Int} (h : newE pats exs left right = 0) (hl : ∀ s, s ∈ exs → s.length ≤ 100000000) : Good (newS pats exs left right) := by
  obtain ⟨_, _, h3, _, _, h6⟩ := newE_zero h
  have hr := rangeB_no h6
  refine ⟨fun P hP => ?_, hr.2.2, fun t p hp => ?_⟩
  · obtain ⟨s, hs, rfl⟩ := List.mem_map.1 hP
    exact patOk_of (fe_zero h3 s hs)
  · obtain ⟨s, hs, he⟩ := List.mem_map.1 (exLook_mem hp)
    have : p = (exP (foldP s)).2.1 := (congrArg Prod.snd he).symm
    rw [this]
    exact Nat.le_trans (exP_plen _) (by rw [foldP_len]; exact hl s hs)
end Go.Proofs.YtdcdlmigagjbiaaDoor
