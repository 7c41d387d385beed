/- The walks of the laws CodepointAt, CodepointPoints, CodepointMakes. -/
import Derived.Test.YtkoklnnlhfjbjaaWkQ
import Derived.Test.YtkoklnnlhfjbjaaWkN
import Derived.Test.YtkoklnnlhfjbjaaLaw
namespace Go.Proofs.Ytkoklnnlhfjbjaa
open Go.RowKit
theorem at_at (s : ByteArray) (o : Int) (a b : Nat) (c : Int) (hs : s.size ≤ 4294967296) (h : Hid (atP s.data.toList o = (a, b, c))) (w : World) :
    Calls Try.prog 25 #[.string s, .int .i64 o] w fun e w' => e = .returned (.tuple #[.int .i64 a, .int .i64 b, .int .i64 c]) ∧ w = w' := by
  have := at_any s o hs w
  rw [h.out] at this
  exact this
set_option maxRecDepth 100000 in
set_option maxHeartbeats 400000 in
theorem lawAt (s : ByteArray) (hs : s.size ≤ 9223372036854775807) (o : Int) (w : World) : Calls Try.prog 6 #[.string s, .int .i64 o] w (LawPost w) := by
  have hc := size_cutS s
  have hcut := Lib.hid (cut_any s hs)
  clear hs
  generalize cutS s = t at hc hcut
  have ht : t.size ≤ 4294967296 := by omega
  have hB : Below w.heap.size w w := Below.refl _ _
  rcases (by omega : o < 0 ∨ (0 ≤ o ∧ (t.size : Int) ≤ o) ∨ (0 ≤ o ∧ o < t.size)) with h | ⟨h, h'⟩ | ⟨h, h'⟩
  case inl | inr.inl =>
    have hx := Lib.hid (at_out t.data.toList o (by have : t.data.toList.length = t.size := by simp
                                                   omega))
    go_enter Try.func6, Try.ntmps6
    go_wp2_with (first
      | (go_at_call 12; (with_reducible refine (hcut.out _).mono ?_); rintro e w' ⟨rfl, rfl⟩)
      | (go_at_call 14; (with_reducible refine (known_any _).mono ?_); rintro e w1 ⟨rfl, hb1⟩; have hB := hB.trans (hb1.mono hB.size))
      | (go_at_call 25; (with_reducible refine (at_at t o 0 0 2 ht hx _).mono ?_); rintro e w' ⟨rfl, rfl⟩))
    go_ret
    exact ⟨rfl, hB⟩
  case inr.inr =>
    obtain ⟨k, rfl⟩ := Int.eq_ofNat_of_zero_le h
    have hk : k < t.size := by omega
    have hx := Lib.hid (at_in t k hk)
    obtain ⟨p, n, b, hd⟩ : ∃ p n b, U.dec (t.data.toList.drop k) = (p, n, b) := ⟨_, _, _, rfl⟩
    have Hd := Lib.hid hd
    cases b
    · have hx := Lib.hid (show atP t.data.toList k = (0, 0, 12) by rw [hx.out, hd]; rfl)
      have hdc := rdec_at t k p n false ht Hd
      simp only [Bool.false_eq_true, if_false] at hdc
      have Hdc := Lib.hid hdc
      clear hdc hd
      go_enter Try.func6, Try.ntmps6
      go_wp2_with (first
        | (go_at_call 12; (with_reducible refine (hcut.out _).mono ?_); rintro e w' ⟨rfl, rfl⟩)
        | (go_at_call 14; (with_reducible refine (known_any _).mono ?_); rintro e w1 ⟨rfl, hb1⟩; have hB := hB.trans (hb1.mono hB.size))
        | (go_at_call 25; (with_reducible refine (at_at t k 0 0 12 ht hx _).mono ?_); rintro e w' ⟨rfl, rfl⟩)
        | (go_at_call 26; (with_reducible refine (Hdc.out _).mono ?_); rintro e w2 ⟨rfl, hb2⟩; have hB := hB.trans (hb2.mono hB.size)))
      go_ret
      exact ⟨rfl, hB⟩
    · obtain ⟨h1, h2, h3, h4, h5, h6, h7⟩ := dec_size t k p n hd
      clear h4 h5 h6 h7
      have hx := Lib.hid (show atP t.data.toList k = (p, n, 0) by rw [hx.out, hd]; rfl)
      have hdc := rdec_at t k p n true ht Hd
      simp only [if_true] at hdc
      have Hdc := Lib.hid hdc
      have hn0 : ((n : Int) == 0) = false := beq_eq_false_iff_ne.2 (by omega)
      clear hdc hd
      go_enter Try.func6, Try.ntmps6
      go_wp2_with (first
        | (go_at_call 12; (with_reducible refine (hcut.out _).mono ?_); rintro e w' ⟨rfl, rfl⟩)
        | (go_at_call 14; (with_reducible refine (known_any _).mono ?_); rintro e w1 ⟨rfl, hb1⟩; have hB := hB.trans (hb1.mono hB.size))
        | (go_at_call 25; (with_reducible refine (at_at t k p n 0 ht hx _).mono ?_); rintro e w' ⟨rfl, rfl⟩)
        | (go_at_call 26; (with_reducible refine (Hdc.out _).mono ?_); rintro e w2 ⟨rfl, hb2⟩; have hB := hB.trans (hb2.mono hB.size)))
      go_ret
      exact ⟨rfl, hB⟩

/-- Points at a string that is not valid, and at one that is, with its row opened -/
theorem points_bad (s : ByteArray) (hs : s.size ≤ 4294967296) (h : Hid ((U.bad s.data.toList).isEmpty = false)) (w : World) :
    Calls Try.prog 27 #[.string s] w fun e w' => e = .returned (.tuple #[.slice none 0 0, .int .i64 12]) ∧ Below w.heap.size w w' := by
  refine (points_any s hs w).mono fun e w' h' => ?_
  obtain ⟨v, he, hb, ho⟩ := h'
  rw [h.out] at he ho
  simp only [Bool.false_eq_true, if_false] at he ho
  subst ho
  exact ⟨he, hb⟩
theorem points_good (s : ByteArray) (hs : s.size ≤ 4294967296) (h : Hid ((U.bad s.data.toList).isEmpty = true)) (w : World) :
    Calls Try.prog 27 #[.string s] w fun e w' => ∃ (ao : Option Addr) (cap : Nat), e = .returned (.tuple #[.slice ao (ptsI s.data.toList).length cap, .int .i64 0]) ∧ Below w.heap.size w w' ∧ Ints w' (.slice ao (ptsI s.data.toList).length cap) (ptsI s.data.toList) := by
  refine (points_any s hs w).mono fun e w' h' => ?_
  obtain ⟨v, he, hb, ho⟩ := h'
  rw [h.out] at he ho
  simp only [if_true] at he ho
  have hI := Ints.of_owns ho
  obtain ⟨ao, cap, rfl⟩ := hI.shape
  exact ⟨ao, cap, he, hb, hI⟩
theorem rpoints_good (s : ByteArray) (hs : s.size ≤ 4294967296) (w : World) :
    Calls Try.prog 23 #[.string s] w fun e w' => ∃ (ao : Option Addr) (cap : Nat), e = .returned (.slice ao (ptsI s.data.toList).length cap) ∧ Below w.heap.size w w' ∧ Ints w' (.slice ao (ptsI s.data.toList).length cap) (ptsI s.data.toList) := by
  refine (rpoints_any s hs w).mono fun e w' h' => ?_
  obtain ⟨v, rfl, hb, ho⟩ := h'
  have hI := Ints.of_owns ho
  obtain ⟨ao, cap, rfl⟩ := hI.shape
  exact ⟨ao, cap, rfl, hb, hI⟩
theorem ptsI_le (s : ByteArray) : (ptsI s.data.toList).length ≤ s.size := pts_len s s.size (ptsI s.data.toList) (by rw [drop_end s s.size (Nat.le_refl _)]; simp [ptsI, U.scan_nil.1])
theorem make_at (v : Value) (l : List Int) (t : List UInt8) (z : Int) (w : World) (hl : l.length ≤ 1000000000) (hv : Ints w v l) (h : Hid (makeP l = (t, z))) :
    Calls Try.prog 35 #[v] w fun e w' => e = .returned (.tuple #[.string ⟨t.toArray⟩, .int .i64 z]) ∧ Below w.heap.size w w' := by
  have := make_any v l w hl hv
  rw [h.out] at this
  exact this
theorem same_at (va vb : Value) (l : List Int) (w : World) (hl : l.length ≤ 1000000000) (ha : Ints w va l) (hb : Ints w vb l) :
    Calls Try.prog 36 #[va, vb] w fun e w' => e = .returned (.bool true) ∧ Below w.heap.size w w' := by
  refine (same_any va vb l l w hl hl ha hb).mono fun e w' h => ?_
  obtain ⟨he, hb⟩ := h
  exact ⟨by rw [he]; simp, hb⟩
theorem firstP_bad (s : ByteArray) (h : (U.bad s.data.toList).isEmpty = false) : 0 ≤ firstP s.data.toList := by
  have := firstP_neg s.data.toList
  rw [h] at this
  have := of_decide_eq_false this
  omega
theorem firstP_good (s : ByteArray) (h : (U.bad s.data.toList).isEmpty = true) : firstP s.data.toList = -1 := by
  unfold firstP; rw [h]; rfl
theorem data_eta (t : ByteArray) : (⟨t.data.toList.toArray⟩ : ByteArray) = t := by simp
set_option maxRecDepth 100000 in
set_option maxHeartbeats 800000 in
theorem lawPoints (s : ByteArray) (hs : s.size ≤ 9223372036854775807) (w : World) : Calls Try.prog 10 #[.string s] w (LawPost w) := by
  have hc := size_cutS s
  have hcut := Lib.hid (cut_any s hs)
  clear hs
  generalize cutS s = t at hc hcut
  have ht : t.size ≤ 4294967296 := by omega
  have hB : Below w.heap.size w w := Below.refl _ _
  obtain ⟨c, hb⟩ : ∃ c, (U.bad t.data.toList).isEmpty = c := ⟨_, rfl⟩
  have Hb := Lib.hid hb
  cases c
  · have hct := Lib.hid (countP_bad t.data.toList hb)
    have hf := firstP_bad t hb
    obtain ⟨z, hz⟩ : ∃ z, firstP t.data.toList = z := ⟨_, rfl⟩
    rw [hz] at hf
    have Hz := Lib.hid hz
    clear hz hb
    go_enter Try.func10, Try.ntmps10
    go_wp2_with (first
      | (go_at_call 12; (with_reducible refine (hcut.out _).mono ?_); rintro e w' ⟨rfl, rfl⟩)
      | (go_at_call 14; (with_reducible refine (known_any _).mono ?_); rintro e w1 ⟨rfl, hb1⟩; have hB := hB.trans (hb1.mono hB.size))
      | (go_at_call 27; (with_reducible refine (points_bad t ht Hb _).mono ?_); rintro e w2 ⟨rfl, hb2⟩; have hB := hB.trans (hb2.mono hB.size))
      | (go_at_call 34; (with_reducible refine (count_at t (0, 12) ht hct _).mono ?_); rintro e w' ⟨rfl, rfl⟩)
      | (go_at_call 17; (with_reducible refine (rfirst_at t z ht Hz _).mono ?_); rintro e w3 ⟨rfl, hb3⟩; have hB := hB.trans (hb3.mono hB.size)))
    go_ret
    exact ⟨rfl, hB⟩
  · have hct := Lib.hid (countP_valid t.data.toList hb)
    have hmk := Lib.hid (makeP_pts t.data.toList hb)
    have hz := Lib.hid (firstP_good t hb)
    have hlen := ptsI_le t
    have hpg := Lib.hid (points_good t ht Hb)
    have hrg := Lib.hid (rpoints_good t ht)
    clear hb
    generalize ptsI t.data.toList = L at hct hmk hlen hpg hrg
    have hl : L.length ≤ 1000000000 := by omega
    go_enter Try.func10, Try.ntmps10
    go_wp2_with (first
      | (go_at_call 12; (with_reducible refine (hcut.out _).mono ?_); rintro e w' ⟨rfl, rfl⟩)
      | (go_at_call 27; (with_reducible refine (hpg.out _).mono ?_); rintro e w2 ⟨ao, cap, rfl, hb2, hI⟩; have hB := hB.trans (hb2.mono hB.size))
      | (go_at_call 34; (with_reducible refine (count_at t (L.length, 0) ht hct _).mono ?_); rintro e w' ⟨rfl, rfl⟩)
      | (go_at_call 14; (with_reducible refine (known_any _).mono ?_); rintro e w1 ⟨rfl, hb1⟩; have hB := hB.trans (hb1.mono hB.size); have hI := hI.below hb1)
      | (go_at_call 17; (with_reducible refine (rfirst_at t (-1) ht hz _).mono ?_); rintro e w3 ⟨rfl, hb3⟩; have hB := hB.trans (hb3.mono hB.size); have hI := hI.below hb3)
      | (go_at_call 35; (with_reducible refine (make_at _ L _ 0 _ hl hI hmk).mono ?_); rintro e w4 ⟨rfl, hb4⟩; have hB := hB.trans (hb4.mono hB.size); have hI := hI.below hb4)
      | (go_at_call 23; (with_reducible refine (hrg.out _).mono ?_); rintro e w5 ⟨ao2, cap2, rfl, hb5, hI2⟩; have hB := hB.trans (hb5.mono hB.size); have hI := hI.below hb5)
      | (go_at_call 36; (with_reducible refine (same_at _ _ L _ hl hI hI2).mono ?_); rintro e w6 ⟨rfl, hb6⟩; have hB := hB.trans (hb6.mono hB.size)))
    go_ret
    exact ⟨by simp, hB⟩
/-- the law's list, cut to a hundred -/
theorem Ints.take {w : World} {v : Value} {l : List Int} (h : Ints w v l) (n : Nat) : ∀ ao cap, v = .slice ao l.length cap → Ints w (.slice ao (min n l.length) cap) (l.take n) := by
  intro ao cap e
  obtain ⟨ao', cap', h1, h2, h3, h4⟩ := h
  rw [e] at h1
  simp only [Value.slice.injEq] at h1
  obtain ⟨rfl, _, rfl⟩ := h1
  refine ⟨ao, cap, by rw [List.length_take], by rw [List.length_take]; omega, h3, fun hl => ?_⟩
  rw [List.length_take] at hl
  obtain ⟨b, off, e1, e2, e3⟩ := h4 (by omega)
  refine ⟨b, off, e1, e2, fun j hj => ?_⟩
  rw [List.length_take] at hj
  rw [e3 j (by omega)]
  simp [List.getD, show j < n by omega]
end Go.Proofs.Ytkoklnnlhfjbjaa
