/- Plain facts behind the laws Levels, Points, Parts, Orders, Minima: folding, points in order, parts, order of a dictionary. -/
import Derived.Test.YtdcdlmigagjbiaaDoorHe1
import Derived.Test.YtdcdlmigagjbiaaDoorHd1
namespace Go.Proofs.YtdcdlmigagjbiaaDoor
open Go.RowKit
/-! ### folding keeps what is valid, and heads -/
theorem fold1_low {c : UInt8} (h : 65 ≤ c.toNat ∧ c.toNat ≤ 90) : (fold1 c).toNat = c.toNat + 32 := by
  unfold fold1; rw [if_pos h, U.toNat_ofNat_lt _ (by omega)]
theorem fold1_cases (c : UInt8) : fold1 c = c ∨ (c.toNat < 128 ∧ (fold1 c).toNat < 128) := by
  by_cases h : 65 ≤ c.toNat ∧ c.toNat ≤ 90
  · exact .inr ⟨by omega, by rw [fold1_low h]; omega⟩
  · exact .inl (fold1_no c (by omega))
theorem fold1_two (c : UInt8) : fold1 (fold1 c) = fold1 c := by
  by_cases h : 65 ≤ c.toNat ∧ c.toNat ≤ 90
  · exact fold1_no _ (by rw [fold1_low h]; omega)
  · rw [fold1_no c (by omega), fold1_no c (by omega)]
theorem foldP_two (t : List UInt8) : foldP (foldP t) = foldP t := by
  unfold foldP
  rw [List.map_map]
  exact List.map_congr_left fun c _ => fold1_two c
theorem decGo_fold : ∀ (k lo hi p s : Nat) (r : List UInt8), 128 ≤ lo → U.decGo k lo hi p s (r.map fold1) = U.decGo k lo hi p s r
  | 0, _, _, _, _, _, _ => rfl
  | _ + 1, _, _, _, _, [], _ => rfl
  | k + 1, lo, hi, p, s, c :: r, h => by
    show (if (fold1 c).toNat < lo ∨ hi < (fold1 c).toNat then _ else U.decGo k 128 191 (p * 64 + (fold1 c).toNat % 64) (s + 1) (r.map fold1)) = (if c.toNat < lo ∨ hi < c.toNat then _ else U.decGo k 128 191 (p * 64 + c.toNat % 64) (s + 1) r)
    rcases fold1_cases c with e | ⟨e1, e2⟩
    · rw [e, decGo_fold k 128 191 _ _ r (Nat.le_refl _)]
    · rw [if_pos (Or.inl (by omega)), if_pos (Or.inl (by omega))]
theorem tlow_128 (b : Nat) : 128 ≤ U.tlow b := by unfold U.tlow; (repeat' split) <;> omega
theorem dec_fold (l : List UInt8) : (U.dec (foldP l)).2 = (U.dec l).2 := by
  cases l with
  | nil => rfl
  | cons b r =>
    show (U.dec (fold1 b :: r.map fold1)).2 = _
    rcases fold1_cases b with e | ⟨e1, e2⟩
    · rw [e]
      show (if U.tsize b.toNat = 0 then (0, 0, false) else if U.tsize b.toNat = 1 then (b.toNat, 1, true) else U.decGo (U.tsize b.toNat - 1) (U.tlow b.toNat) (U.thigh b.toNat) (U.tlead b.toNat) 1 (r.map fold1)).2 = (if U.tsize b.toNat = 0 then (0, 0, false) else if U.tsize b.toNat = 1 then (b.toNat, 1, true) else U.decGo (U.tsize b.toNat - 1) (U.tlow b.toNat) (U.thigh b.toNat) (U.tlead b.toNat) 1 r).2
      rw [decGo_fold _ _ _ _ _ r (tlow_128 _)]
    · have h1 : U.tsize b.toNat = 1 := by unfold U.tsize; rw [if_pos e1]
      have h2 : U.tsize (fold1 b).toNat = 1 := by unfold U.tsize; rw [if_pos e2]
      show (if U.tsize (fold1 b).toNat = 0 then (0, 0, false) else if U.tsize (fold1 b).toNat = 1 then ((fold1 b).toNat, 1, true) else _).2 = (if U.tsize b.toNat = 0 then (0, 0, false) else if U.tsize b.toNat = 1 then (b.toNat, 1, true) else _).2
      rw [h1, h2]
      rfl
theorem valid_fold_n : ∀ (n : Nat) (l : List UInt8), l.length ≤ n → (U.bad (foldP l)).isEmpty = (U.bad l).isEmpty := by
  intro n
  induction n with
  | zero =>
    intro l h
    obtain rfl := List.eq_nil_of_length_eq_zero (by omega : l.length = 0)
    rfl
  | succ n ih =>
    intro l h
    have hd := dec_fold l
    by_cases hk : (U.dec l).2.2 = true
    · have hk2 : (U.dec (foldP l)).2.2 = true := by rw [hd]; exact hk
      rw [(U.scan_ok _ hk).2, (U.scan_ok _ hk2).2, hd]
      have e : (foldP l).drop (U.dec l).2.1 = foldP (l.drop (U.dec l).2.1) := by unfold foldP; rw [List.map_drop]
      rw [e]
      obtain ⟨_, h2, _⟩ := U.dec_ok l hk
      have := (U.esize_pos (U.dec l).1).1
      by_cases hl : l = []
      · subst hl; cases hk
      · have := List.length_pos_iff.2 hl
        exact ih _ (by rw [List.length_drop]; omega)
    · have hk' : (U.dec l).2.2 = false := by simpa using hk
      have hk2 : (U.dec (foldP l)).2.2 = false := by rw [hd]; exact hk'
      rw [(U.scan_no _ hk').2, (U.scan_no _ hk2).2]
      cases l <;> rfl
theorem valid_fold (l : List UInt8) : (U.bad (foldP l)).isEmpty = (U.bad l).isEmpty := valid_fold_n _ l (Nat.le_refl _)
theorem isHead_fold (c : UInt8) : isHead (fold1 c) = isHead c := by
  rcases fold1_cases c with e | ⟨e1, e2⟩
  · rw [e]
  · unfold isHead
    rw [decide_eq_false (by omega), decide_eq_false (by omega)]
theorem headPos_fold : ∀ (l : List UInt8) (i : Nat), headPos i (foldP l) = headPos i l
  | [], _ => rfl
  | c :: r, i => by
    show headPos i (fold1 c :: foldP r) = _
    simp only [headPos]
    rw [isHead_fold, headPos_fold r]
theorem begN_fold (l : List UInt8) : begN (foldP l) = begN l := by
  unfold begN
  rw [headPos_fold, foldP_len]
theorem ptsI_len (l : List UInt8) : (ptsI l).length = (U.pts l).length := by unfold ptsI; rw [List.length_map]
theorem begN_valid {l : List UInt8} (h : (U.bad l).isEmpty = true) : (begN l).length = (ptsI l).length + 1 ∧ ∀ k, k ≤ (ptsI l).length → (begN l).getD k 0 = (U.encs ((U.pts l).take k)).length := by
  have e := U.of_valid l (by simpa using h)
  rw [ptsI_len]
  obtain ⟨h1, h2⟩ := begN_encs (U.pts l) (U.pts_ok l)
  rw [← e] at h1 h2
  exact ⟨h1, h2⟩
theorem pts_fold_len {l : List UInt8} (h : (U.bad l).isEmpty = true) : (ptsI (foldP l)).length = (ptsI l).length := by
  have h1 := (begN_valid h).1
  have h2 := (begN_valid (l := foldP l) (by rw [valid_fold]; exact h)).1
  rw [begN_fold, h1] at h2
  omega

/-! ### points are in order -/
theorem oddsG_ge : ∀ (l : List Int) (i : Nat) (x : Int), x ∈ oddsG i l → (i : Int) ≤ x
  | [], _, _, h => by cases h
  | y :: r, i, x, h => by
    unfold oddsG at h
    split at h
    · rcases List.mem_cons.1 h with rfl | h
      · exact Int.le_refl _
      · have := oddsG_ge r (i + 1) x h; omega
    · have := oddsG_ge r (i + 1) x h; omega
theorem oddsG_sorted : ∀ (l : List Int) (i : Nat), List.Pairwise (· ≤ ·) (oddsG i l)
  | [], _ => List.Pairwise.nil
  | y :: r, i => by
    unfold oddsG
    split
    · exact List.Pairwise.cons (fun x hx => by have := oddsG_ge r (i + 1) x hx; omega) (oddsG_sorted r (i + 1))
    · exact oddsG_sorted r (i + 1)
theorem dash_ge : ∀ (l : List Int) (n : Nat) (x : Int), x ∈ dash n l → (n : Int) ≤ x
  | [], _, _, h => by cases h
  | y :: r, n, x, h => by
    unfold dash at h
    split at h
    · rcases List.mem_cons.1 h with rfl | h
      · exact Int.le_refl _
      · exact dash_ge r n x h
    · have := dash_ge r (n + 1) x h; omega
theorem dash_sorted : ∀ (l : List Int) (n : Nat), List.Pairwise (· ≤ ·) (dash n l)
  | [], _ => List.Pairwise.nil
  | y :: r, n => by
    unfold dash
    split
    · exact List.Pairwise.cons (fun x hx => dash_ge r n x hx) (dash_sorted r n)
    · exact dash_sorted r (n + 1)
theorem exP_sorted (t : List UInt8) : List.Pairwise (· ≤ ·) (exP t).2.1 := by
  rw [exP_eq]
  split
  · exact dash_sorted _ _
  · exact List.Pairwise.nil
theorem points_sorted {pats exs : List (List UInt8)} {left right : Int} (t : List UInt8) : List.Pairwise (· ≤ ·) (pointsP (newS pats exs left right) t) := by
  unfold pointsP
  split
  · exact List.Pairwise.nil
  · rename_i l _
    apply List.Pairwise.filter
    unfold allP
    split
    · rename_i p hp
      have := exLook_mem hp
      obtain ⟨s, _, e⟩ := List.mem_map.1 this
      have hs := exP_sorted (foldP s)
      have e2 : (exP (foldP s)).2.1 = p := congrArg Prod.snd e
      rw [e2] at hs
      exact hs
    · exact oddsG_sorted _ _
theorem points_bound {st : HS} {t : List UInt8} {x : Int} (h : x ∈ pointsP st t) : letsP t = true ∧ st.left ≤ x ∧ x ≤ ((ptsI t).length : Int) - st.right := by
  unfold pointsP at h
  split at h
  · cases h
  · rename_i l hl
    obtain ⟨h1, h2, _, _⟩ := wordP_some hl
    have hk := (List.mem_filter.1 h).2
    unfold keepP at hk
    simp only [Bool.and_eq_true, decide_eq_true_eq] at hk
    rw [h2]
    exact ⟨h1, hk.1, hk.2⟩
/-! ### parts -/
def offN (t : List UInt8) (p : Int) : Nat := (begN t).getD p.toNat 0
def oAt (t : List UInt8) (ps : List Int) (i : Nat) : Nat := if i = 0 then 0 else offN t (ps.getD (i - 1) 0)
def segAt (t : List UInt8) (ps : List Int) (i : Nat) : List UInt8 := (t.drop (oAt t ps i)).take (oAt t ps (i + 1) - oAt t ps i)
def partsP (t : List UInt8) (ps : List Int) : List (List UInt8) := (List.range ps.length).map (segAt t ps) ++ [t.drop (oAt t ps ps.length)]
/-- points that are in order and within a valid string -/
structure InPts (t : List UInt8) (ps : List Int) : Prop where
  ok : ps ≠ [] → (U.bad t).isEmpty = true
  ge : ∀ i, i < ps.length → 0 ≤ ps.getD i 0 ∧ (ps.getD i 0).toNat ≤ (ptsI t).length
  le : ∀ i, i + 1 < ps.length → ps.getD i 0 ≤ ps.getD (i + 1) 0
theorem getD_mem {l : List Int} {i : Nat} (h : i < l.length) : l.getD i 0 ∈ l := by
  rw [List.getD_eq_getElem?_getD, List.getElem?_eq_getElem h]
  exact List.getElem_mem h
theorem inPts {pats exs : List (List UInt8)} {left right : Int} (hl : 1 ≤ left) (hr : 1 ≤ right) (t : List UInt8) : InPts t (pointsP (newS pats exs left right) (foldP t)) := by
  have hs := points_sorted (pats := pats) (exs := exs) (left := left) (right := right) (foldP t)
  have hb := fun x h => points_bound (st := newS pats exs left right) (t := foldP t) (x := x) h
  have hv : ∀ x, x ∈ pointsP (newS pats exs left right) (foldP t) → (U.bad t).isEmpty = true := fun x hx => by
    have h1 := (hb x hx).1
    unfold letsP at h1
    rw [Bool.and_eq_true] at h1
    rw [← valid_fold]; exact h1.1
  refine ⟨fun hne => ?_, fun i hi => ?_, fun i hi => ?_⟩
  · obtain ⟨x, hx⟩ := List.exists_mem_of_ne_nil _ hne
    exact hv x hx
  · have hm := getD_mem hi
    obtain ⟨_, h2, h3⟩ := hb _ hm
    rw [pts_fold_len (hv _ hm)] at h3
    have h2' : left ≤ _ := h2
    have h3' : _ ≤ _ - right := h3
    omega
  · have := List.pairwise_iff_getElem.1 hs i (i + 1) (by omega) hi (by omega)
    rw [List.getD_eq_getElem?_getD, List.getD_eq_getElem?_getD, List.getElem?_eq_getElem hi, List.getElem?_eq_getElem (by omega)]
    exact this
theorem InPts.off {t : List UInt8} {ps : List Int} (h : InPts t ps) {i : Nat} (hi : i < ps.length) : offP t (ps.getD i 0) = ((offN t (ps.getD i 0) : Int), 0) := by
  obtain ⟨h1, h2⟩ := h.ge i hi
  have hv := h.ok (fun e => by rw [e] at hi; cases hi)
  have hl := (begN_valid hv).1
  unfold offP offN
  rw [hv, if_pos rfl, if_neg (by omega)]
theorem InPts.oAt_le {t : List UInt8} {ps : List Int} (h : InPts t ps) {i : Nat} (hi : i ≤ ps.length) : oAt t ps i ≤ t.length := by
  unfold oAt
  split
  · omega
  · obtain ⟨h1, h2⟩ := h.ge (i - 1) (by omega)
    have hv := h.ok (fun e => by rw [e] at hi; simp at hi; omega)
    have hl := (begN_valid hv).1
    exact begN_le t _ (by omega)
theorem InPts.oAt_mono {t : List UInt8} {ps : List Int} (h : InPts t ps) {i : Nat} (hi : i < ps.length) : oAt t ps i ≤ oAt t ps (i + 1) := by
  unfold oAt
  split
  · omega
  · rw [if_neg (by omega), Nat.add_sub_cancel]
    have hle := h.le (i - 1) (by omega)
    rw [show i - 1 + 1 = i from by omega] at hle
    obtain ⟨h1, h2⟩ := h.ge i hi
    have hv := h.ok (fun e => by rw [e] at hi; cases hi)
    have hl := (begN_valid hv).1
    exact begN_mono t _ _ (by omega) (by omega)
theorem take_seg {t : List UInt8} {a b : Nat} (h : a ≤ b) : t.take a ++ (t.drop a).take (b - a) = t.take b := by
  have := List.take_add (l := t) (i := a) (j := b - a)
  rw [show a + (b - a) = b from by omega] at this
  exact this.symm
theorem InPts.count {t : List UInt8} {ps : List Int} (h : InPts t ps) {i : Nat} (hi : i < ps.length) : countP (t.take (oAt t ps (i + 1))) = ((ps.getD i 0).toNat, 0) := by
  obtain ⟨h1, h2⟩ := h.ge i hi
  have hv := h.ok (fun e => by rw [e] at hi; cases hi)
  have e := U.of_valid t (by simpa using hv)
  have hb := (begN_valid hv).2 _ h2
  have hp := fun p (hp : p ∈ (U.pts t).take (ps.getD i 0).toNat) => U.pts_ok t p (List.mem_of_mem_take hp)
  have ht : t.take (oAt t ps (i + 1)) = U.encs ((U.pts t).take (ps.getD i 0).toNat) := by
    unfold oAt offN
    rw [if_neg (by omega), Nat.add_sub_cancel, hb]
    have e2 : t = U.encs ((U.pts t).take (ps.getD i 0).toNat) ++ U.encs ((U.pts t).drop (ps.getD i 0).toNat) := by
      rw [← U.encs_append, List.take_append_drop]; exact e
    generalize U.encs ((U.pts t).take (ps.getD i 0).toNat) = A at e2
    rw [e2, List.take_append_of_le_length (Nat.le_refl _), List.take_length]
  rw [ht]
  obtain ⟨s1, s2⟩ := U.scan_of _ hp
  rw [countP_valid _ (by rw [s2]; rfl), ptsI_len, s1, List.length_take]
  rw [ptsI_len] at h2
  rw [show min (ps.getD i 0).toNat (U.pts t).length = (ps.getD i 0).toNat from by omega]
theorem parts_len (t : List UInt8) (ps : List Int) : (partsP t ps).length = ps.length + 1 := by simp [partsP]
theorem parts_get (t : List UInt8) (ps : List Int) {i : Nat} (h : i < ps.length) : (partsP t ps).getD i [] = segAt t ps i := by
  unfold partsP
  rw [List.getD_eq_getElem?_getD, List.getElem?_append_left (by simpa using h), List.getElem?_map, List.getElem?_range h]
  rfl
theorem parts_last (t : List UInt8) (ps : List Int) : (partsP t ps).getD ps.length [] = t.drop (oAt t ps ps.length) := by
  unfold partsP
  rw [List.getD_eq_getElem?_getD, List.getElem?_append_right (by simp)]
  simp
theorem points_empty (st : HS) : pointsP st (foldP []) = [] := by
  have : wordP (foldP []) = none := by decide +kernel
  unfold pointsP; rw [this]
/-! ### exceptions are words -/
theorem okD_word : ∀ (l : List Int) (pd : Bool), okD pd l = true → (noD l).all letC = true ∧ (0 < (noD l).length ∨ (pd = false ∧ l = []))
  | [], pd, h => ⟨rfl, .inr ⟨by simpa [okD] using h, rfl⟩⟩
  | c :: r, pd, h => by
    unfold okD at h
    split at h
    · rename_i hc
      rw [Bool.and_eq_true] at h
      obtain ⟨h1, h2⟩ := okD_word r true h.2
      have e : noD (c :: r) = noD r := by simp [noD, hc]
      rw [e]
      refine ⟨h1, ?_⟩
      rcases h2 with h2 | ⟨h2, _⟩
      · exact .inl h2
      · cases h2
    · rename_i hc
      rw [Bool.and_eq_true] at h
      obtain ⟨h1, _⟩ := okD_word r false h.2
      have e : noD (c :: r) = c :: noD r := by simp [noD, hc]
      rw [e]
      exact ⟨by rw [List.all_cons, h.1, h1]; rfl, .inl (by simp)⟩
theorem exP_word {t : List UInt8} (h : (exP t).2.2 = true) : (wordP (exP t).1).isSome = true := by
  rw [exP_eq] at h ⊢
  split at h
  · rename_i hc
    rw [if_pos hc]
    rw [Bool.and_eq_true] at hc
    obtain ⟨h1, h2⟩ := okD_word _ _ hc.2
    have hn : (noD (ptsI t)).length ≤ 64 := by simpa using h
    obtain ⟨e1, e2⟩ := pts_make _ (okI_noD (okI_pts t))
    have h3 : 0 < (noD (ptsI t)).length := by
      rcases h2 with h2 | ⟨h2, _⟩
      · exact h2
      · cases h2
    unfold wordP
    rw [if_pos]
    · rfl
    · show letsP (encI (noD (ptsI t))) = true ∧ 0 < (ptsI (encI (noD (ptsI t)))).length ∧ (ptsI (encI (noD (ptsI t)))).length ≤ 64
      unfold letsP
      rw [e1, e2, h1]
      exact ⟨rfl, h3, hn⟩
  · cases h
theorem look_no {pats exs : List (List UInt8)} {left right : Int} (h : newE pats exs left right = 0) {t : List UInt8} (ht : wordP t = none) : exLook (exs.map exOf) t = none := by
  obtain ⟨_, _, _, hb, _, _⟩ := newE_zero h
  cases hx : exLook (exs.map exOf) t with
  | none => rfl
  | some p =>
    have hm := exLook_mem hx
    obtain ⟨s, hs, e⟩ := List.mem_map.1 hm
    have hok : (exP (foldP s)).2.2 = true := by
      unfold exBad at hb
      rw [List.any_eq_false] at hb
      have := hb s hs
      simpa using this
    have hw := exP_word hok
    have e1 : (exP (foldP s)).1 = t := congrArg Prod.fst e
    rw [e1, ht] at hw
    cases hw
theorem levP_none (st : HS) {t : List UInt8} (ht : wordP t = none) : levP st t = [] := by unfold levP; rw [ht]
theorem levP_some (st : HS) {t : List UInt8} {L : List Int} (ht : wordP t = some L) : levP st t = levelsP st.pats L := by unfold levP; rw [ht]
theorem points_none (st : HS) {t : List UInt8} (ht : wordP t = none) : pointsP st t = [] := by unfold pointsP; rw [ht]
/-! ### greater minima -/
theorem points_min {pats exs : List (List UInt8)} {l r l' r' : Int} (hl : l ≤ l') (hr : r ≤ r') (t : List UInt8) : pointsP (newS pats exs l' r') t = (pointsP (newS pats exs l r) t).filter (keepP l' r' (ptsI t).length) := by
  unfold pointsP
  cases hw : wordP t with
  | none => rfl
  | some L =>
    obtain ⟨_, h2, _, _⟩ := wordP_some hw
    rw [h2]
    show List.filter (keepP l' r' L.length) (allP (newS pats exs l' r') t L) = List.filter (keepP l' r' L.length) (List.filter (keepP l r L.length) (allP (newS pats exs l r) t L))
    rw [List.filter_filter]
    apply List.filter_congr
    intro x _
    unfold keepP
    by_cases h1 : l' ≤ x <;> by_cases h2 : x ≤ (L.length : Int) - r'
    · simp [h1, h2, show l ≤ x from by omega, show x ≤ (L.length : Int) - r from by omega]
    · simp [h1, h2]
    · simp [h1, h2]
    · simp [h1, h2]
theorem newE_min {pats exs : List (List UInt8)} {l r l' r' : Int} (h : newE pats exs l r = 0) (hl : 1 ≤ l' ∧ l' ≤ 64) (hr : 1 ≤ r' ∧ r' ≤ 64) : newE pats exs l' r' = 0 := by
  obtain ⟨h1, h2, h3, h4, h5, _⟩ := newE_zero h
  unfold newE
  rw [if_neg (by omega), if_neg (by omega), if_neg (by rw [h4]; simp), if_neg (by rw [h5]; simp), if_neg]
  unfold rangeB
  simp; omega
/-! ### order of a dictionary -/
theorem exLook_iff : ∀ {exs : List (List UInt8 × List Int)}, (exs.map (·.1)).Nodup → ∀ (t : List UInt8) (p : List Int), exLook exs t = some p ↔ (t, p) ∈ exs
  | [], _, t, p => by simp [exLook]
  | (w, q) :: r, hn, t, p => by
    rw [List.map_cons, List.nodup_cons] at hn
    have ih := exLook_iff hn.2 t p
    rw [List.mem_cons]
    show (match exLook r t with | some q => some q | none => if w = t then some q else none) = some p ↔ _
    cases hx : exLook r t with
    | some q' =>
      rw [hx] at ih
      constructor
      · exact fun h => .inr (ih.1 h)
      · rintro (h | h)
        · injection h with e1 e2
          have := exLook_mem hx
          exact absurd (List.mem_map.2 ⟨_, this, e1⟩) hn.1
        · exact ih.2 h
    | none =>
      rw [hx] at ih
      constructor
      · intro h
        by_cases e : w = t
        · simp only [if_pos e] at h
          obtain rfl := Option.some.inj h
          exact .inl (by rw [e])
        · simp only [if_neg e] at h
          cases h
      · rintro (h | h)
        · injection h with e1 e2
          simp only [if_pos e1.symm, e2]
        · exact absurd (ih.2 h) (by simp)
theorem exLook_perm {a b : List (List UInt8 × List Int)} (ha : (a.map (·.1)).Nodup) (hb : (b.map (·.1)).Nodup) (h : ∀ x, x ∈ a ↔ x ∈ b) (t : List UInt8) : exLook a t = exLook b t := by
  apply Option.ext
  intro p
  rw [exLook_iff ha, exLook_iff hb, h]
theorem dupB_no {exs : List (List UInt8)} (h : dupB exs = false) : ((exs.map exOf).map (·.1)).Nodup := by
  unfold dupB at h
  rw [List.map_map]
  have h2 : (exs.map fun s => (exOf s).1).Nodup := by simpa using h
  exact h2
/-- two dictionaries of the same patterns and exceptions -/
theorem newE_perm {pats exs pats' exs' : List (List UInt8)} {l r : Int} (h : newE pats exs l r = 0) (hp : ∀ s, s ∈ pats' ↔ s ∈ pats) (hx : exs' = exs.reverse) (hl : pats'.length ≤ 4096) : newE pats' exs' l r = 0 := by
  obtain ⟨h1, h2, h3, h4, h5, h6⟩ := newE_zero h
  have f0 : fe pats' = 0 := fe_none _ fun j hj => by
    have hm : pats'.getD j [] ∈ pats' := by
      rw [List.getD_eq_getElem?_getD, List.getElem?_eq_getElem hj]
      exact List.getElem_mem hj
    exact fe_zero h3 _ ((hp _).1 hm)
  have e0 : exBad exs' = false := by
    unfold exBad at h4 ⊢
    rw [hx, List.any_reverse]
    exact h4
  have d0 : dupB exs' = false := by
    unfold dupB at h5 ⊢
    rw [hx, List.map_reverse]
    have h5' : (exs.map fun s => (exOf s).1).Nodup := by simpa using h5
    have : ((exs.map fun s => (exOf s).1).reverse).Nodup := by
      unfold List.Nodup at h5' ⊢
      rw [List.pairwise_reverse]
      exact h5'.imp fun h => h.symm
    simpa using this
  unfold newE
  rw [if_neg (by rw [hx, List.length_reverse]; omega), if_neg (by omega), if_neg (by rw [e0]; simp), if_neg (by rw [d0]; simp), if_neg (by rw [h6]; simp)]
theorem points_perm {pats exs pats' exs' : List (List UInt8)} {l r : Int} (h : newE pats exs l r = 0) (h' : newE pats' exs' l r = 0) (hp : ∀ s, s ∈ pats' ↔ s ∈ pats) (hx : exs' = exs.reverse) (t : List UInt8) :
    pointsP (newS pats' exs' l r) t = pointsP (newS pats exs l r) t ∧ levP (newS pats' exs' l r) t = levP (newS pats exs l r) t := by
  have hlev : ∀ L, levelsP (newS pats' exs' l r).pats L = levelsP (newS pats exs l r).pats L := fun L => by
    apply levelsP_congr
    intro P
    show P ∈ pats'.map _ ↔ P ∈ pats.map _
    rw [List.mem_map, List.mem_map]
    exact ⟨fun ⟨s, h1, h2⟩ => ⟨s, (hp s).1 h1, h2⟩, fun ⟨s, h1, h2⟩ => ⟨s, (hp s).2 h1, h2⟩⟩
  have hlook : exLook (newS pats' exs' l r).exs t = exLook (newS pats exs l r).exs t := by
    refine exLook_perm (dupB_no (newE_zero h').2.2.2.2.1) (dupB_no (newE_zero h).2.2.2.2.1) (fun x => ?_) t
    show x ∈ exs'.map exOf ↔ x ∈ exs.map exOf
    rw [hx, List.map_reverse, List.mem_reverse]
  constructor
  · unfold pointsP
    cases wordP t with
    | none => rfl
    | some L =>
      show List.filter _ (allP _ t L) = List.filter _ (allP _ t L)
      unfold allP
      rw [hlook, hlev]
      rfl
  · unfold levP
    cases wordP t with
    | none => rfl
    | some L => exact hlev L
end Go.Proofs.YtdcdlmigagjbiaaDoor
