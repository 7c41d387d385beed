/- Exceptions read from left to right, plain. -/
import Derived.Test.YtdcdlmigagjbiaaDoorKi
namespace Go.Proofs.YtdcdlmigagjbiaaDoor
theorem noD_snoc (l : List Int) (c : Int) : noD (l ++ [c]) = noD l ++ (if c = 45 then [] else [c]) := by
  unfold noD
  rw [List.filter_append]
  by_cases h : c = 45 <;> simp [h]
theorem dash_snoc (l : List Int) (c : Int) : ∀ n, dash n (l ++ [c]) = dash n l ++ (if c = 45 then [((n + (noD l).length : Nat) : Int)] else []) := by
  induction l with
  | nil => intro n; by_cases h : c = 45 <;> simp [dash, noD, h]
  | cons x r ih =>
    intro n
    by_cases hx : x = 45
    · subst hx
      show dash n (45 :: (r ++ [c])) = dash n (45 :: r) ++ _
      simp only [dash, if_true]
      rw [ih n]
      simp [noD]
    · show dash n (x :: (r ++ [c])) = dash n (x :: r) ++ _
      simp only [dash, if_neg hx]
      rw [ih (n + 1)]
      have : (noD (x :: r)).length = (noD r).length + 1 := by simp [noD, hx]
      rw [this, show n + 1 + (noD r).length = n + ((noD r).length + 1) from by omega]
/-- whether what stands before place k is a hyphen, or nothing -/
def pdAt (l : List Int) (k : Nat) : Bool := if k = 0 then true else decide (l.getD (k - 1) 0 = 45)
theorem okD_at_let {l : List Int} {k : Nat} (h : k < l.length) (hc : letC (l.getD k 0) = true) : okD (pdAt l k) (l.drop k) = okD (pdAt l (k + 1)) (l.drop (k + 1)) := by
  have hn : l.getD k 0 ≠ 45 := (letC_num hc).2.2.1
  rw [drop_at h]
  show (if l.getD k 0 = 45 then _ else letC (l.getD k 0) && okD false (l.drop (k + 1))) = _
  rw [if_neg hn, hc, Bool.true_and]
  unfold pdAt
  rw [if_neg (by omega), Nat.add_sub_cancel, decide_eq_false hn]
theorem okD_at_dash {l : List Int} {k : Nat} (h : k < l.length) (hc : l.getD k 0 = 45) (hp : pdAt l k = false) : okD (pdAt l k) (l.drop k) = okD (pdAt l (k + 1)) (l.drop (k + 1)) := by
  rw [drop_at h, hp]
  show (if l.getD k 0 = 45 then !false && okD true (l.drop (k + 1)) else _) = _
  rw [if_pos hc]
  unfold pdAt
  rw [if_neg (by omega), Nat.add_sub_cancel, decide_eq_true hc]
  rfl
theorem okD_at_two {l : List Int} {k : Nat} (h : k < l.length) (hc : l.getD k 0 = 45) (hp : pdAt l k = true) : okD (pdAt l k) (l.drop k) = false := by
  rw [drop_at h, hp]
  show (if l.getD k 0 = 45 then !true && okD true (l.drop (k + 1)) else _) = _
  rw [if_pos hc]; rfl
theorem okD_at_no {l : List Int} {k : Nat} (h : k < l.length) (hc : l.getD k 0 ≠ 45) (hl : letC (l.getD k 0) = false) : okD (pdAt l k) (l.drop k) = false := by
  rw [drop_at h]
  show (if l.getD k 0 = 45 then _ else letC (l.getD k 0) && okD false (l.drop (k + 1))) = _
  rw [if_neg hc, hl, Bool.false_and]
theorem okD_end {l : List Int} (h : 0 < l.length) (hl : l.getD (l.length - 1) 0 ≠ 45) : okD (pdAt l l.length) (l.drop l.length) = true := by
  rw [List.drop_length]
  unfold pdAt
  rw [if_neg (by omega), decide_eq_false hl]; rfl
theorem okD_first {l : List Int} (h : 0 < l.length) (hl : l.getD 0 0 = 45) : okD true l = false := by
  have := okD_at_two (l := l) (k := 0) h hl rfl
  simpa [pdAt] using this
theorem okD_tail {l : List Int} (h : 0 < l.length) (hl : l.getD (l.length - 1) 0 = 45) : okD true l = false := by
  have e : l = l.take (l.length - 1) ++ [45] := by
    have := take_snoc l 0 (l.length - 1) (by omega)
    rw [hl, show l.length - 1 + 1 = l.length from by omega, List.take_length] at this
    exact this
  rw [e]; exact okD_last _ _
theorem exP_none {t : List UInt8} (h : (U.bad t).isEmpty = false ∨ okD true (ptsI t) = false) : exP t = ([], [], false) := by
  rw [exP_eq, if_neg]
  rcases h with h | h <;> simp [h]
theorem exP_some {t : List UInt8} (h : (U.bad t).isEmpty = true) (h' : okD true (ptsI t) = true) : exP t = (encI (noD (ptsI t)), dash 0 (ptsI t), decide ((noD (ptsI t)).length ≤ 64)) := by
  rw [exP_eq, if_pos (by simp [h, h'])]
theorem noD_le (l : List Int) : (noD l).length ≤ l.length := List.length_filter_le _ _
theorem okI_noD {l : List Int} (h : okI l = true) : okI (noD l) = true := by
  unfold okI at h ⊢
  rw [List.all_eq_true] at h ⊢
  exact fun x hx => h x (List.mem_filter.1 hx).1
end Go.Proofs.YtdcdlmigagjbiaaDoor
