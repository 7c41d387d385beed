/- Levels and points, plain. -/
import Derived.Test.YtdcdlmigagjbiaaDoorHex
namespace Go.Proofs.YtdcdlmigagjbiaaDoor

/-- whether a pattern matches at a place -/
def matchB (l : List Int) (P : Pat) (at_ : Nat) : Bool :=
  decide (at_ + (ptsI P.letters).length ≤ l.length) && ((l.drop at_).take (ptsI P.letters).length == ptsI P.letters) && (!P.beg || at_ == 0) && (!P.fin || at_ + (ptsI P.letters).length == l.length)
/-- out holds, at each place, the greatest of what C says of the place, or 0 -/
def LvS (C : Nat → Int → Prop) (out : List Int) : Prop := ∀ j x, out[j]? = some x → (x = 0 ∨ C j x) ∧ 0 ≤ x ∧ ∀ y, C j y → y ≤ x
theorem LvS.congr {C D : Nat → Int → Prop} {out : List Int} (h : LvS C out) (e : ∀ j y, C j y ↔ D j y) : LvS D out := by
  intro j x hx
  obtain ⟨h1, h2, h3⟩ := h j x hx
  exact ⟨h1.imp id (fun k => (e j x).1 k), h2, fun y hy => h3 y ((e j y).2 hy)⟩
theorem LvS.zero (n : Nat) {C : Nat → Int → Prop} (h : ∀ j y, ¬ C j y) : LvS C (List.replicate n 0) := by
  intro j x hx
  rw [List.getElem?_replicate] at hx
  split at hx
  · obtain rfl := Option.some.inj hx
    exact ⟨.inl rfl, Int.le_refl _, fun y hy => absurd hy (h j y)⟩
  · cases hx
theorem LvS.step {C : Nat → Int → Prop} {out : List Int} (h : LvS C out) {j : Nat} {x : Int} (hj : out[j]? = some x) (y : Int) {D : Nat → Int → Prop} (e : ∀ i z, D i z ↔ C i z ∨ (i = j ∧ z = y)) : LvS D (out.set j (max x y)) := by
  intro i z hz
  obtain ⟨h1, h2, h3⟩ := h j x hj
  rw [List.getElem?_set] at hz
  split at hz
  · rename_i hij
    subst hij
    split at hz
    · obtain rfl := Option.some.inj hz
      refine ⟨?_, by omega, fun u hu => ?_⟩
      · rcases Int.le_total x y with hle | hle
        · rw [Int.max_eq_right hle]; exact .inr ((e _ _).2 (.inr ⟨rfl, rfl⟩))
        · rw [Int.max_eq_left hle]; exact h1.imp id (fun k => (e _ _).2 (.inl k))
      · rcases (e _ _).1 hu with hu | ⟨_, rfl⟩
        · have := h3 u hu; omega
        · omega
    · cases hz
  · rename_i hij
    obtain ⟨k1, k2, k3⟩ := h i z hz
    refine ⟨k1.imp id (fun k => (e _ _).2 (.inl k)), k2, fun u hu => ?_⟩
    rcases (e _ _).1 hu with hu | ⟨hi, _⟩
    · exact k3 u hu
    · exact absurd hi.symm hij
theorem LvS.uniq {C : Nat → Int → Prop} {a b : List Int} (ha : LvS C a) (hb : LvS C b) (hl : a.length = b.length) : a = b := by
  apply List.ext_getElem hl
  intro i h1 h2
  obtain ⟨a1, a2, a3⟩ := ha i a[i] (List.getElem?_eq_getElem h1)
  obtain ⟨b1, b2, b3⟩ := hb i b[i] (List.getElem?_eq_getElem h2)
  have hab : a[i] ≤ b[i] := by
    rcases a1 with e | e
    · omega
    · exact b3 _ e
  have hba : b[i] ≤ a[i] := by
    rcases b1 with e | e
    · omega
    · exact a3 _ e
  omega
/-- what the patterns of a list say of a place -/
def allC (pats : List Pat) (l : List Int) (j : Nat) (y : Int) : Prop := ∃ P, P ∈ pats ∧ ∃ at_ k, matchB l P at_ = true ∧ at_ + k = j ∧ P.levels[k]? = some y
def sayAt (pats : List Pat) (l : List Int) (j : Nat) : List Int := pats.flatMap fun P => (List.range (j + 1)).filterMap fun at_ => if matchB l P at_ then P.levels[j - at_]? else none
def levelsP (pats : List Pat) (l : List Int) : List Int := (List.range (l.length + 1)).map fun j => (sayAt pats l j).foldl max 0
theorem sayAt_mem (pats : List Pat) (l : List Int) (j : Nat) (y : Int) : y ∈ sayAt pats l j ↔ allC pats l j y := by
  unfold sayAt allC
  rw [List.mem_flatMap]
  constructor
  · rintro ⟨P, hP, h⟩
    obtain ⟨a, ha, h⟩ := List.mem_filterMap.1 h
    rw [List.mem_range] at ha
    split at h
    · rename_i hm
      exact ⟨P, hP, a, j - a, hm, by omega, h⟩
    · cases h
  · rintro ⟨P, hP, a, k, hm, rfl, h⟩
    refine ⟨P, hP, List.mem_filterMap.2 ⟨a, List.mem_range.2 (by omega), ?_⟩⟩
    rw [if_pos hm, show a + k - a = k from by omega]
    exact h
theorem foldl_max (l : List Int) : ∀ (a : Int), a ≤ l.foldl max a ∧ (l.foldl max a = a ∨ l.foldl max a ∈ l) ∧ ∀ y, y ∈ l → y ≤ l.foldl max a := by
  induction l with
  | nil => exact fun a => ⟨Int.le_refl _, .inl rfl, fun y h => by cases h⟩
  | cons x r ih =>
    intro a
    obtain ⟨i1, i2, i3⟩ := ih (max a x)
    have e2 : List.foldl max a (x :: r) = r.foldl max (max a x) := rfl
    rw [e2]
    refine ⟨by omega, ?_, fun y hy => ?_⟩
    · rcases i2 with e | e
      · rcases Int.le_total a x with hle | hle
        · rw [e, Int.max_eq_right hle]; exact .inr List.mem_cons_self
        · rw [e, Int.max_eq_left hle]; exact .inl rfl
      · exact .inr (List.mem_cons_of_mem _ e)
    · rcases List.mem_cons.1 hy with rfl | hy
      · omega
      · exact i3 y hy
theorem levelsP_len (pats : List Pat) (l : List Int) : (levelsP pats l).length = l.length + 1 := by simp [levelsP]
theorem levelsP_ok (pats : List Pat) (l : List Int) : LvS (allC pats l) (levelsP pats l) := by
  intro j x hx
  unfold levelsP at hx
  rw [List.getElem?_map] at hx
  cases hr : (List.range (l.length + 1))[j]? with
  | none => rw [hr] at hx; cases hx
  | some j' =>
    rw [hr] at hx
    have hj : j' = j := by
      rw [List.getElem?_range] at hr
      · exact (Option.some.inj hr).symm
      · have := (List.getElem?_eq_some_iff.1 hr).1
        simpa using this
    subst hj
    obtain rfl := Option.some.inj hx
    obtain ⟨h1, h2, h3⟩ := foldl_max (sayAt pats l j') 0
    exact ⟨h2.imp id (fun k => (sayAt_mem _ _ _ _).1 k), h1, fun y hy => h3 y ((sayAt_mem _ _ _ _).2 hy)⟩
theorem levelsP_uniq {pats : List Pat} {l out : List Int} (h : LvS (allC pats l) out) (hl : out.length = l.length + 1) : out = levelsP pats l := h.uniq (levelsP_ok pats l) (by rw [hl, levelsP_len])
/-- only which patterns there are matters -/
theorem levelsP_congr {ps qs : List Pat} (l : List Int) (h : ∀ P, P ∈ ps ↔ P ∈ qs) : levelsP ps l = levelsP qs l := by
  refine levelsP_uniq ((levelsP_ok ps l).congr fun j y => ?_) (levelsP_len _ _)
  exact ⟨fun ⟨P, h1, h2⟩ => ⟨P, (h P).1 h1, h2⟩, fun ⟨P, h1, h2⟩ => ⟨P, (h P).2 h1, h2⟩⟩
/-- the offsets of odd levels -/
def oddsG : Nat → List Int → List Int
  | _, [] => []
  | i, x :: r => if Int.tmod x 2 = 1 then (i : Int) :: oddsG (i + 1) r else oddsG (i + 1) r
/-- a hyphenator's state -/
structure HS where
  pats : List Pat
  exs : List (List UInt8 × List Int)
  left : Int
  right : Int
/-- the points listed for a word -/
def exLook : List (List UInt8 × List Int) → List UInt8 → Option (List Int)
  | [], _ => none
  | (w, p) :: r, x => match exLook r x with | some q => some q | none => if w = x then some p else none
/-- the letters of a folded word that can be divided -/
def wordP (t : List UInt8) : Option (List Int) := if letsP t = true ∧ 0 < (ptsI t).length ∧ (ptsI t).length ≤ 64 then some (ptsI t) else none
def keepP (left right n : Int) (p : Int) : Bool := decide (left ≤ p) && decide (p ≤ n - right)
def allP (st : HS) (t : List UInt8) (l : List Int) : List Int := match exLook st.exs t with | some p => p | none => oddsG 0 (levelsP st.pats l)
/-- what Points returns of a folded word -/
def pointsP (st : HS) (t : List UInt8) : List Int := match wordP t with | none => [] | some l => (allP st t l).filter (keepP st.left st.right l.length)
end Go.Proofs.YtdcdlmigagjbiaaDoor
