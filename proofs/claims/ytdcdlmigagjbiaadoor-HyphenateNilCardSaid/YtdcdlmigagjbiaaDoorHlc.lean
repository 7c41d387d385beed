/- What the rounds of Levels say of the places, plain. -/
import Derived.Test.YtdcdlmigagjbiaaDoorHwd
namespace Go.Proofs.YtdcdlmigagjbiaaDoor
def qL (P : Pat) : List Int := ptsI P.letters
def PatOk (P : Pat) : Prop := 0 < (qL P).length ∧ P.levels.length = (qL P).length + 1
def contr (at_ : Nat) (P : Pat) (j : Nat) (y : Int) : Prop := ∃ k, at_ + k = j ∧ P.levels[k]? = some y
def C0 (pats : List Pat) (l : List Int) (fr j : Nat) (y : Int) : Prop := ∃ P, P ∈ pats ∧ ∃ at_, at_ < fr ∧ matchB l P at_ = true ∧ contr at_ P j y
def C1 (pats : List Pat) (l : List Int) (fr to j : Nat) (y : Int) : Prop := C0 pats l fr j y ∨ ∃ P, P ∈ pats ∧ matchB l P fr = true ∧ (qL P).length ≤ to - fr ∧ contr fr P j y
def C2 (pats : List Pat) (l : List Int) (fr to : Nat) (ps : List Pat) (i j : Nat) (y : Int) : Prop := C1 pats l fr to j y ∨ ∃ P, P ∈ ps.take i ∧ matchB l P fr = true ∧ contr fr P j y
def C3 (pats : List Pat) (l : List Int) (fr to : Nat) (ps : List Pat) (i : Nat) (P : Pat) (k j : Nat) (y : Int) : Prop := C2 pats l fr to ps i j y ∨ ∃ k', k' < k ∧ fr + k' = j ∧ P.levels[k']? = some y
def path (l : List Int) (fr to : Nat) : List Int := (l.drop fr).take (to - fr)
theorem path_len {l : List Int} {fr to : Nat} (h : fr ≤ to) (h' : to ≤ l.length) : (path l fr to).length = to - fr := by
  unfold path; rw [List.length_take, List.length_drop]; omega
theorem path_nil (l : List Int) (fr : Nat) : path l fr fr = [] := by unfold path; rw [Nat.sub_self]; rfl
theorem path_snoc {l : List Int} {fr to : Nat} (h : fr ≤ to) (h' : to < l.length) : path l fr (to + 1) = path l fr to ++ [l.getD to 0] := by
  unfold path
  rw [show to + 1 - fr = (to - fr) + 1 from by omega, take_snoc _ 0 _ (by rw [List.length_drop]; omega)]
  congr 2
  rw [List.getD_eq_getElem?_getD, List.getD_eq_getElem?_getD, List.getElem?_drop, show fr + (to - fr) = to from by omega]
theorem match_parts {l : List Int} {P : Pat} {fr : Nat} (h : matchB l P fr = true) : fr + (qL P).length ≤ l.length ∧ path l fr (fr + (qL P).length) = qL P ∧ (P.beg = true → fr = 0) ∧ (P.fin = true → fr + (qL P).length = l.length) := by
  unfold matchB at h
  simp only [Bool.and_eq_true, decide_eq_true_eq, beq_iff_eq, Bool.or_eq_true, Bool.not_eq_true'] at h
  obtain ⟨⟨⟨h1, h2⟩, h3⟩, h4⟩ := h
  refine ⟨h1, ?_, fun hb => ?_, fun hb => ?_⟩
  · unfold path; rw [show fr + (qL P).length - fr = (qL P).length from by omega]; exact h2
  · rcases h3 with h3 | h3
    · rw [hb] at h3; cases h3
    · exact h3
  · rcases h4 with h4 | h4
    · rw [hb] at h4; cases h4
    · exact h4
theorem match_of {l : List Int} {P : Pat} {fr to : Nat} (h : fr ≤ to) (h' : to ≤ l.length) (hq : qL P = path l fr to) : matchB l P fr = ((!P.beg || decide (fr = 0)) && (!P.fin || decide (to = l.length))) := by
  have hl : (ptsI P.letters).length = to - fr := by
    show (qL P).length = _
    rw [hq, path_len h h']
  have ht : ((l.drop fr).take (ptsI P.letters).length == ptsI P.letters) = true := by
    rw [hl, beq_iff_eq]
    show path l fr to = qL P
    exact hq.symm
  have e2 : decide (fr + (ptsI P.letters).length ≤ l.length) = true := by rw [decide_eq_true_eq, hl]; omega
  have e3 : (fr == 0) = decide (fr = 0) := by cases fr <;> simp
  have e4 : (fr + (ptsI P.letters).length == l.length) = decide (to = l.length) := by
    rw [hl, show fr + (to - fr) = to from by omega]
    by_cases e : to = l.length <;> simp [e]
  unfold matchB
  rw [ht, e2, e3, e4]
  simp
section
variable {pats : List Pat} {l : List Int} (hok : ∀ P, P ∈ pats → PatOk P)
include hok
theorem C0_all (j : Nat) (y : Int) : C0 pats l l.length j y ↔ allC pats l j y := by
  constructor
  · rintro ⟨P, hP, at_, _, hm, k, h1, h2⟩
    exact ⟨P, hP, at_, k, hm, h1, h2⟩
  · rintro ⟨P, hP, at_, k, hm, h1, h2⟩
    have := (match_parts hm).1
    have := (hok P hP).1
    exact ⟨P, hP, at_, by omega, hm, k, h1, h2⟩
theorem C1_start (fr j : Nat) (y : Int) : C1 pats l fr fr j y ↔ C0 pats l fr j y := by
  constructor
  · rintro (h | ⟨P, hP, _, h1, _⟩)
    · exact h
    · have := (hok P hP).1
      omega
  · exact .inl
omit hok in
theorem C1_end (fr to : Nat) (h : ∀ P, P ∈ pats → matchB l P fr = true → (qL P).length ≤ to - fr) (j : Nat) (y : Int) : C1 pats l fr to j y ↔ C0 pats l (fr + 1) j y := by
  constructor
  · rintro (⟨P, hP, at_, h1, h2⟩ | ⟨P, hP, hm, _, hc⟩)
    · exact ⟨P, hP, at_, by omega, h2⟩
    · exact ⟨P, hP, fr, by omega, hm, hc⟩
  · rintro ⟨P, hP, at_, h1, hm, hc⟩
    by_cases e : at_ = fr
    · subst e
      exact .inr ⟨P, hP, hm, h P hP hm, hc⟩
    · exact .inl ⟨P, hP, at_, by omega, hm, hc⟩
omit hok in
theorem C1_full (fr : Nat) (j : Nat) (y : Int) : C1 pats l fr l.length j y ↔ C0 pats l (fr + 1) j y :=
  C1_end fr l.length (fun P _ hm => by have := (match_parts hm).1; omega) j y
omit hok in
/-- behind a node without a child -/
theorem C1_break {f : TF} (hf : Holds f pats) (fr to : Nat) (hft : fr ≤ to) (hn : ∀ r, contT f (path l fr (to + 1) ++ r) = []) (j : Nat) (y : Int) : C1 pats l fr to j y ↔ C0 pats l (fr + 1) j y := by
  refine C1_end fr to (fun P hP hm => ?_) j y
  obtain ⟨h1, h2, _⟩ := match_parts hm
  rcases Nat.lt_or_ge (to - fr) (qL P).length with hlt | hge
  · exfalso
    have hq : qL P = path l fr (to + 1) ++ (l.drop (to + 1)).take (fr + (qL P).length - (to + 1)) := by
      refine h2.symm.trans ?_
      unfold path
      rw [show fr + (qL P).length - fr = (to + 1 - fr) + (fr + (qL P).length - (to + 1)) from by omega, List.take_add, List.drop_drop, show fr + (to + 1 - fr) = to + 1 from by omega]
    have h3 := hn ((l.drop (to + 1)).take (fr + (qL P).length - (to + 1)))
    rw [← hq, hf (qL P)] at h3
    have h4 : P ∈ pats.filter fun P' => decide (ptsI P'.letters = qL P) := List.mem_filter.2 ⟨hP, by simp [qL]⟩
    rw [h3] at h4
    cases h4
  · exact hge
omit hok in
theorem C2_start (fr to : Nat) (ps : List Pat) (j : Nat) (y : Int) : C2 pats l fr to ps 0 j y ↔ C1 pats l fr to j y := by
  constructor
  · rintro (h | ⟨P, hP, _⟩)
    · exact h
    · simp at hP
  · exact .inl
omit hok in
theorem C2_end {f : TF} (hf : Holds f pats) (fr to : Nat) (hft : fr ≤ to) (hto : to < l.length) {ps : List Pat} (hps : ps = contT f (path l fr (to + 1))) (j : Nat) (y : Int) : C2 pats l fr to ps ps.length j y ↔ C1 pats l fr (to + 1) j y := by
  have hmem : ∀ P, P ∈ ps ↔ P ∈ pats ∧ qL P = path l fr (to + 1) := fun P => by
    rw [hps, hf, List.mem_filter, decide_eq_true_eq]; rfl
  unfold C2
  rw [List.take_length]
  constructor
  · rintro ((h | ⟨P, hP, hm, h1, hc⟩) | ⟨P, hP, hm, hc⟩)
    · exact .inl h
    · exact .inr ⟨P, hP, hm, by omega, hc⟩
    · obtain ⟨h1, h2⟩ := (hmem P).1 hP
      exact .inr ⟨P, h1, hm, by rw [h2, path_len (by omega) (by omega)]; omega, hc⟩
  · rintro (h | ⟨P, hP, hm, h1, hc⟩)
    · exact .inl (.inl h)
    · rcases Nat.lt_or_ge (to - fr) (qL P).length with hlt | hge
      · refine .inr ⟨P, (hmem P).2 ⟨hP, ?_⟩, hm, hc⟩
        obtain ⟨_, h2, _⟩ := match_parts hm
        rw [← h2, show fr + (qL P).length = to + 1 from by omega]
      · exact .inl (.inr ⟨P, hP, hm, hge, hc⟩)
omit hok in
theorem C2_skip (fr to : Nat) {ps : List Pat} {i : Nat} (hi : i < ps.length) (hm : matchB l (ps.getD i .zero) fr = false) (j : Nat) (y : Int) : C2 pats l fr to ps (i + 1) j y ↔ C2 pats l fr to ps i j y := by
  unfold C2
  rw [take_snoc ps .zero i hi]
  constructor
  · rintro (h | ⟨P, hP, h1, h2⟩)
    · exact .inl h
    · rcases List.mem_append.1 hP with hP | hP
      · exact .inr ⟨P, hP, h1, h2⟩
      · obtain rfl : P = ps.getD i .zero := by simpa using hP
        rw [hm] at h1; cases h1
  · rintro (h | ⟨P, hP, h1⟩)
    · exact .inl h
    · exact .inr ⟨P, List.mem_append_left _ hP, h1⟩
omit hok in
theorem C3_start (fr to : Nat) (ps : List Pat) (i : Nat) (P : Pat) (j : Nat) (y : Int) : C3 pats l fr to ps i P 0 j y ↔ C2 pats l fr to ps i j y := by
  constructor
  · rintro (h | ⟨k, hk, _⟩)
    · exact h
    · omega
  · exact .inl
omit hok in
theorem C3_step (fr to : Nat) (ps : List Pat) (i : Nat) (P : Pat) (k : Nat) (x : Int) (hx : P.levels[k]? = some x) (j : Nat) (y : Int) : C3 pats l fr to ps i P (k + 1) j y ↔ C3 pats l fr to ps i P k j y ∨ (j = fr + k ∧ y = x) := by
  constructor
  · rintro (h | ⟨k', hk, h1, h2⟩)
    · exact .inl (.inl h)
    · by_cases e : k' = k
      · subst e
        rw [hx] at h2
        exact .inr ⟨h1.symm, (Option.some.inj h2).symm⟩
      · exact .inl (.inr ⟨k', by omega, h1, h2⟩)
  · rintro ((h | ⟨k', hk, h1⟩) | ⟨h1, h2⟩)
    · exact .inl h
    · exact .inr ⟨k', by omega, h1⟩
    · exact .inr ⟨k, by omega, h1.symm, by rw [h2]; exact hx⟩
omit hok in
theorem C3_end (fr to : Nat) {ps : List Pat} {i : Nat} {P : Pat} (hi : i < ps.length) (hP : ps.getD i .zero = P) (hm : matchB l P fr = true) (j : Nat) (y : Int) : C3 pats l fr to ps i P P.levels.length j y ↔ C2 pats l fr to ps (i + 1) j y := by
  unfold C3 C2
  rw [take_snoc ps .zero i hi, hP]
  constructor
  · rintro ((h | ⟨Q, hQ, h1⟩) | ⟨k, hk, h1, h2⟩)
    · exact .inl h
    · exact .inr ⟨Q, List.mem_append_left _ hQ, h1⟩
    · exact .inr ⟨P, by simp, hm, k, h1, h2⟩
  · rintro (h | ⟨Q, hQ, h1, h2⟩)
    · exact .inl (.inl h)
    · rcases List.mem_append.1 hQ with hQ | hQ
      · exact .inl (.inr ⟨Q, hQ, h1, h2⟩)
      · obtain rfl : Q = P := by simpa using hQ
        obtain ⟨k, h3, h4⟩ := h2
        exact .inr ⟨k, (List.getElem?_eq_some_iff.1 h4).1, h3, h4⟩
end
/-- the cells of one pattern of a row -/
theorem patCells_get {w : World} {B : Nat} : ∀ {xs : List Value} {ps : List Pat} (i : Nat), patCells w B xs ps → i < ps.length → ∃ v, xs[4 * i]? = some (.string ⟨(ps.getD i .zero).letters.toArray⟩) ∧ xs[4 * i + 1]? = some v ∧ IntRow w B v (ps.getD i .zero).levels ∧ xs[4 * i + 2]? = some (.bool (ps.getD i .zero).beg) ∧ xs[4 * i + 3]? = some (.bool (ps.getD i .zero).fin)
  | [], [], i, _, h => by simp at h
  | s :: v :: b :: f :: xs, P :: ps, 0, ⟨h1, h2, h3, h4, _⟩, _ => ⟨v, by rw [h1]; rfl, rfl, h2, by rw [h3]; rfl, by rw [h4]; rfl⟩
  | s :: v :: b :: f :: xs, P :: ps, i + 1, ⟨_, _, _, _, h5⟩, h => by
    obtain ⟨u, k1, k2, k3, k4, k5⟩ := patCells_get i h5 (by simpa using h)
    exact ⟨u, k1, k2, k3, k4, k5⟩
  | [], _ :: _, _, h, _ => h.elim
  | [_], _, _, h, _ => by cases h
  | [_, _], _, _, h, _ => by cases h
  | [_, _, _], _, _, h, _ => by cases h
  | _ :: _ :: _ :: _ :: _, [], _, h, _ => h.elim
theorem row_cell {w : World} {B : Nat} {e : TypeId} {v : Value} {n : Nat} {xs : List Value} {size : Nat} (h : w.ownsRow B e size v n xs) (hn : 0 < n) : ∃ g cap, v = .slice (some ⟨g, 0, none⟩) n cap ∧ n ≤ cap ∧ cap ≤ maxLen ∧ g < w.heap.size ∧ ∀ j, j < n * size → w.cell? ⟨g, j, none⟩ = xs[j]? := by
  rcases h.2 with ⟨_, h0⟩ | ⟨g, cap, cur, rfl, hb, hh, hc, hm, _⟩
  · omega
  · exact ⟨g, cap, rfl, hc, hm, (Array.getElem?_eq_some_iff.1 hh).1, fun j hj => h.cellAt j hj⟩
end Go.Proofs.YtdcdlmigagjbiaaDoor
