/- A byte of a frame is changed: what is found then. -/
import Derived.Test.YtfdnpchbbngpjaaJpb
namespace Go.Proofs.Ytfdnpchbbngpjaa

theorem rd_set {A : List UInt8} {p k j : Nat} (hk : k ≤ A.length) (hj : j < k) (y : UInt8) : rd (A.set ((p + j) % A.length) y) p k = (rd A p k).set j y := by
  have hlt : (p + j) % A.length < A.length := Nat.mod_lt _ (by omega)
  apply getD_ext
  · rw [rd_length, List.length_set, rd_length]
  · intro i hi
    rw [rd_length] at hi
    rw [rd_at hi, List.length_set]
    by_cases e : i = j
    · subst e
      rw [getD_set_self hlt, getD_set_self (by rw [rd_length]; exact hi)]
    · have hne : (p + j) % A.length ≠ (p + i) % A.length := by
        rcases Nat.lt_or_ge i j with h | h
        · exact (mod_ne (n := A.length) (a := p + i) (b := p + j) (by omega) (by omega)).symm
        · exact mod_ne (n := A.length) (a := p + j) (b := p + i) (by omega) (by omega)
      rw [getD_set_ne hne, getD_set_ne (fun h => e h.symm), rd_at hi]
theorem set_same_get {l : List UInt8} {j : Nat} {y : UInt8} (hj : j < l.length) (h : l.set j y = l) : y = l.getD j 0 := by
  have := congrArg (fun x => x.getD j 0) h
  rwa [getD_set_self hj] at this
theorem crc_set (a l : List UInt8) {j : Nat} {y : UInt8} (hj : j < l.length) (hy : y ≠ l.getD j 0) : crc (a ++ l.set j y) ≠ crc (a ++ l) := by
  have e1 : l = l.take j ++ l[j] :: l.drop (j + 1) := by rw [← List.drop_eq_getElem_cons hj, List.take_append_drop]
  have e2 : l.set j y = l.take j ++ y :: l.drop (j + 1) := by rw [List.set_eq_take_append_cons_drop, if_pos hj]
  have hx : y ≠ l[j] := by
    rw [List.getD_eq_getElem?_getD, List.getElem?_eq_getElem hj] at hy
    exact hy
  have := crc_byte (a ++ l.take j) (l.drop (j + 1)) hx
  rw [e2]
  rw [List.append_assoc, List.append_assoc] at this
  intro e
  apply this
  rw [e]
  exact congrArg (fun z => crc (a ++ z)) e1
/-- a frame with one byte changed behind its length is no frame -/
theorem frame_broken {A : List UInt8} {p k : Nat} {d : List UInt8} (h : rd A p (16 + d.length) = frameL k d) (hk : k < 18446744073709551616) (hd : d.length ≤ 65536) (hA : 16 + d.length ≤ A.length) {j : Nat} (hj : j < 12 + d.length) {y : UInt8}
    (hy : y ≠ A.getD ((p + (4 + j)) % A.length) 0) (en : Nat) : fr (A.set ((p + (4 + j)) % A.length) y) en p k = [] := by
  obtain ⟨hsize, hnum, hdata, h12, hsum⟩ := headOf h hk hd
  have hx : (rd A p (16 + d.length)).getD (4 + j) 0 = A.getD ((p + (4 + j)) % A.length) 0 := rd_at (by omega)
  rw [← hx] at hy
  have hF' := rd_set (p := p) hA (show 4 + j < 16 + d.length by omega) y
  obtain ⟨A', hA'⟩ : ∃ A', A.set ((p + (4 + j)) % A.length) y = A' := ⟨_, rfl⟩
  rw [hA'] at hF' ⊢
  obtain ⟨F, hF⟩ : ∃ F, rd A p (16 + d.length) = F := ⟨_, rfl⟩
  have hFl : F.length = 16 + d.length := by rw [← hF]; exact rd_length _ _ _
  have r16 : rd A p 16 = F.take 16 := by rw [← hF]; exact (rd_take A p (by omega)).symm
  have rda : rd A (p + 16) d.length = F.drop 16 := by rw [← hF, rd_drop A p (by omega)]; congr 1; omega
  have r16' : rd A' p 16 = (F.take 16).set (4 + j) y := by
    have := rd_take A' p (show 16 ≤ 16 + d.length by omega)
    rw [← this, hF', hF, List.take_set]
  rw [hF] at hF' hy
  have hdF : d = F.drop 16 := by
    have : fdata A p = F.drop 16 := by unfold fdata; rw [hsize, rda]
    rw [← hdata, this]
  have hsz' : fsize A' p = d.length := by
    rw [← hsize]
    unfold fsize field
    rw [r16', r16, List.drop_zero, List.drop_zero, List.take_set, List.set_eq_of_length_le (by rw [List.length_take, List.length_take]; omega)]
  have hda' : fdata A' p = (F.set (4 + j) y).drop 16 := by
    unfold fdata
    rw [hsz', ← hF', rd_drop A' p (by omega)]
    congr 1
    omega
  have get : ∀ a n, a + n ≤ 16 → ((F.take 16).drop a).take n = (F.drop a).take n := fun a n han => by
    rw [List.drop_take, List.take_take, Nat.min_eq_left (by omega)]
  have fld : ∀ a n, a + n ≤ 16 → field (rd A p 16) a n = beV ((F.drop a).take n) := fun a n han => by unfold field; rw [r16, get a n han]
  have fld' : ∀ a n, a + n ≤ 16 → field (rd A' p 16) a n = beV (((F.set (4 + j) y).drop a).take n) := fun a n han => by
    unfold field
    rw [r16', ← List.take_set, List.drop_take, List.take_take, Nat.min_eq_left (by omega)]
  have inside : ∀ a n, a + n ≤ 16 → a ≤ 4 + j → 4 + j < a + n → beV (((F.set (4 + j) y).drop a).take n) ≠ beV ((F.drop a).take n) := by
    intro a n h1 h2 h3 he
    have hl : ((F.drop a).take n).length = n := by rw [List.length_take, List.length_drop]; omega
    rw [List.drop_set, if_neg (by omega), List.take_set] at he
    have := beV_inj (by rw [List.length_set]) he
    have := set_same_get (by omega) this
    apply hy
    rw [this, List.getD_eq_getElem?_getD, List.getElem?_take_of_lt (by omega), List.getElem?_drop, ← List.getD_eq_getElem?_getD, show a + (4 + j - a) = 4 + j by omega]
  have same : ∀ a n, a + n ≤ 16 → a + n ≤ 4 + j → ((F.set (4 + j) y).drop a).take n = (F.drop a).take n := by
    intro a n h1 h2
    rw [List.drop_set, if_neg (by omega), List.take_set, List.set_eq_of_length_le (by rw [List.length_take, List.length_drop]; omega)]
  have later : ∀ a, 4 + j < a → (F.set (4 + j) y).drop a = F.drop a := fun a h1 => by rw [List.drop_set, if_pos h1]
  apply fr_stop
  rw [Bool.and_eq_false_iff]
  by_cases c1 : field (rd A' p 16) 4 8 = k
  · right
    unfold frSum
    rw [beq_eq_false_iff_ne]
    intro c2
    have j8 : 8 ≤ j := by
      rcases Nat.lt_or_ge j 8 with hlt | hge
      · exfalso
        rw [fld' 4 8 (by omega)] at c1
        rw [fld 4 8 (by omega)] at hnum
        exact inside 4 8 (by omega) (by omega) (by omega) (c1.trans hnum.symm)
      · exact hge
    have t12 : (rd A' p 16).take 12 = frameH k d := by
      rw [r16', List.take_set, List.set_eq_of_length_le (by rw [List.length_take, List.length_take]; omega), ← h12, r16]
    rw [t12, hda', fld' 12 4 (by omega)] at c2
    rw [fld 12 4 (by omega)] at hsum
    by_cases j12 : j < 12
    · rw [later 16 (by omega), ← hdF] at c2
      exact inside 12 4 (by omega) (by omega) (by omega) (c2.trans hsum.symm)
    · rw [same 12 4 (by omega) (by omega), hsum, List.drop_set, if_neg (by omega), ← hdF] at c2
      refine crc_set (frameH k d) d (j := 4 + j - 16) (y := y) (by omega) ?_ c2.symm
      rw [hdF, List.getD_eq_getElem?_getD, List.getElem?_drop, ← List.getD_eq_getElem?_getD, show 16 + (4 + j - 16) = 4 + j by omega]
      exact hy
  · left
    unfold frFits
    rw [Bool.and_eq_false_iff]
    right
    rw [beq_eq_false_iff_ne]
    exact c1
section
variable {st st' : VS} {C : BS} {m c : Nat}
theorem lies_at {A : List UInt8} {f p : Nat} {l : List Rc} (hc : Chain p l) (hl : Lies A f l) {k : Nat} {r : Rc} (hr : l[k]? = some r) : Lies A f (l.take k) ∧ LieAt A (f + k) r ∧ rend p (l.take k) = r.1 ∧ (l.take k).length = k := by
  have hlt := (List.getElem?_eq_some_iff.1 hr).1
  have hlen : (l.take k).length = k := by rw [List.length_take]; omega
  have e : l = l.take k ++ r :: l.drop (k + 1) := by
    have h1 := (List.getElem?_eq_some_iff.1 hr).2
    have h2 := List.drop_eq_getElem_cons hlt
    rw [h1] at h2
    rw [← h2, List.take_append_drop]
  rw [e, lies_append, hlen] at hl
  rw [e, chain_append] at hc
  exact ⟨hl.1, hl.2.1, hc.2.1.symm, hlen⟩
theorem found_broken (hI : Inv st C m c) (hcm : C.s.comm = C.s.recs.length) {k : Nat} {r : Rc} (hr : C.s.recs[k]? = some r) {j : Nat} (hj : j < 12 + r.2.size) {y : UInt8} (hy : y ≠ C.area.getD ((r.1 + (4 + j)) % (256 * m)) 0)
    (h0 : st'.sct 0 = C.h0) (h1 : st'.sct 1 = C.h1) (hA : st'.area = C.area.set ((r.1 + (4 + j)) % (256 * m)) y) : ∃ S', st'.found = some S' ∧ S'.first = C.s.first ∧ S'.recs.length = k := by
  have hal := hI.alen
  have hlies := hI.lies
  rw [hcm, List.take_length] at hlies
  obtain ⟨l1, l2, l3, l4⟩ := lies_at hI.s.chain hlies hr
  have hroom := hI.s.room
  have hlt := (List.getElem?_eq_some_iff.1 hr).1
  have hge := rend_ge' (chain_take hI.s.chain k)
  have hnx : r.1 + 16 + r.2.size ≤ C.s.next := by
    have e := rend_take_le hI.s.chain (k + 1)
    have e2 : rend C.s.beg (C.s.recs.take (k + 1)) = r.1 + 16 + r.2.size := by
      rw [List.take_add_one, hr]
      exact rend_snoc _ _ _
    rw [e2] at e
    exact e
  have hd : r.2.size ≤ 65536 := by
    have h := hI.s.chain
    have e : C.s.recs = C.s.recs.take k ++ r :: C.s.recs.drop (k + 1) := by
      have h1 := (List.getElem?_eq_some_iff.1 hr).2
      have h2 := List.drop_eq_getElem_cons hlt
      rw [h1] at h2
      rw [← h2, List.take_append_drop]
    rw [e, chain_append] at h
    exact h.2.2.1
  have hsz : r.2.data.toList.length = r.2.size := Array.length_toList
  have hnums := hI.s.nums
  have hsmall := hI.small
  rw [← hal] at hy hA
  have hbrk := frame_broken (A := C.area) (p := r.1) (k := C.s.first + k) (d := r.2.data.toList) (by rw [hsz]; exact l2) (by omega) (by omega) (by rw [hal, hsz]; omega) (j := j) (by omega) hy C.s.en
  have hoff : Off C.area st'.area (r.1 + (4 + j)) 1 := by
    rw [hA]
    refine ⟨List.length_set, fun i hi hn => getD_set_ne (hn 0 (by omega)) y⟩
  have hl' : Lies st'.area C.s.first (C.s.recs.take k) := hoff.lies (chain_take hI.s.chain k) (by omega) (by rw [hal]; omega) l1
  have hfr : fr st'.area C.s.en C.s.beg C.s.first = C.s.recs.take k := by
    have := fr_lies (A := st'.area) (en := C.s.en) (m := []) (chain_take hI.s.chain k) hl' (by omega) (by
      have e : C.s.en = C.s.next := by unfold JS.en JS.next; rw [hcm, List.take_length]
      omega) (by rw [l3, l4, hA]; exact hbrk)
    rwa [List.append_nil] at this
  have hlen : st'.area.length = 256 * m := by rw [hA, List.length_set, hal]
  refine ⟨⟨C.s.h, C.s.first, C.s.beg, C.s.recs.take k, (C.s.recs.take k).length⟩, ?_, rfl, l4⟩
  unfold VS.found foundJ
  rw [h0, h1, hlen, hI.find]
  simp only [if_true]
  unfold JS.hd
  simp only
  rw [hfr]
end
end Go.Proofs.Ytfdnpchbbngpjaa
