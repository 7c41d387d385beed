/- The walk of the reference's Slice and of the law CodepointSlices. -/
import Derived.Test.YtkoklnnlhfjbjaaLwD
import Derived.Test.YtkoklnnlhfjbjaaLwQ
import Derived.Deep.QuietTactic
import Derived.BigQuiet
namespace Go.Proofs.Ytkoklnnlhfjbjaa
open Go.RowKit
/-- a part of a slice that is read -/
theorem Ints.sub {w : World} {l : List Int} {ao : Option Addr} {n cap : Nat} (h : Ints w (.slice ao n cap) l) (i j : Nat) (hij : i ≤ j) (hj : j ≤ n) : Ints w (sliced ao i j cap 1) ((l.take j).drop i) := by
  obtain ⟨ao', cap', h1, h2, h3, h4⟩ := h
  simp only [Value.slice.injEq] at h1
  obtain ⟨rfl, rfl, rfl⟩ := h1
  have hlen : ((l.take j).drop i).length = j - i := by rw [List.length_drop, List.length_take]; omega
  unfold sliced
  refine ⟨_, _, by rw [hlen], by rw [hlen]; omega, by omega, fun hl => ?_⟩
  rw [hlen] at hl
  obtain ⟨b, off, rfl, e2, e3⟩ := h4 (by omega)
  refine ⟨b, off + i, ?_, e2, fun k hk => ?_⟩
  · rw [if_neg (by omega), Option.map_some, Nat.mul_one]
    unfold Addr.add
    by_cases h0 : i = 0
    · rw [if_pos h0, h0]; rfl
    · rw [if_neg h0]
  · rw [hlen] at hk
    rw [Nat.add_assoc, e3 (i + k) (by omega)]
    simp [List.getD, List.getElem?_drop, show i + k < j by omega]
theorem rslice_fin {t : List UInt8 × Int} {a : List UInt8} {b : Int} (h : t = (a, b)) : Ending.returned (.tuple #[.string ⟨a.toArray⟩, .int .i64 b]) = .returned (.tuple #[.string ⟨t.1.toArray⟩, .int .i64 t.2]) := by rw [h]
set_option maxRecDepth 100000 in
set_option maxHeartbeats 800000 in
theorem rslice_any (s : ByteArray) (a b : Int) (ht : s.size ≤ 1000000) (w : World) :
    Calls Try.prog 29 #[.string s, .int .i64 a, .int .i64 b] w fun e w' => e = .returned (.tuple #[.string ⟨(sliceP s.data.toList a b).1.toArray⟩, .int .i64 (sliceP s.data.toList a b).2]) ∧ Below w.heap.size w w' := by
  have ht4 : s.size ≤ 4294967296 := by omega
  have hB : Below w.heap.size w w := Below.refl _ _
  by_cases hb : (U.bad s.data.toList).isEmpty = true
  · have Hz := Lib.hid (firstP_good s hb)
    have hnt := ptsI_le s
    obtain ⟨n, hn⟩ : ∃ n, n = (U.pts s.data.toList).length := ⟨_, rfl⟩
    have hlen : (ptsI s.data.toList).length = n := by rw [ptsI_length, hn]
    rw [hlen] at hnt
    have hrp := rpoints_good s ht4
    rw [hlen] at hrp
    have Hrp := Lib.hid hrp
    clear hrp
    by_cases ho : a < 0 ∨ b < a ∨ (n : Int) < b
    · have hx := Lib.hid (sliceP_out s.data.toList hb a b (by rw [← hn]; exact ho))
      rcases (by omega : a < 0 ∨ (0 ≤ a ∧ b < a) ∨ (0 ≤ a ∧ a ≤ b ∧ (n : Int) < b)) with h | ⟨h, h'⟩ | ⟨h, h', h''⟩
      all_goals
        clear ho hn hlen hb
        go_enter Try.func29, Try.ntmps29
        go_wp2_with (first
          | (go_at_call 17; (with_reducible refine (rfirst_at s (-1) ht4 Hz _).mono ?_); rintro e w3 ⟨rfl, hb3⟩; have hB := hB.trans (hb3.mono hB.size))
          | (go_at_call 23; (with_reducible refine (Hrp.out _).mono ?_); rintro e w5 ⟨ao, cap, rfl, hb5, hI⟩; have hB := hB.trans (hb5.mono hB.size)))
        go_ret2
        exact ⟨rslice_fin (a := []) hx.out, hB⟩
    · obtain ⟨i, rfl⟩ := Int.eq_ofNat_of_zero_le (show 0 ≤ a by omega)
      obtain ⟨j, rfl⟩ := Int.eq_ofNat_of_zero_le (show 0 ≤ b by omega)
      have hij : i ≤ j := by omega
      have hj : j ≤ n := by omega
      have hx := Lib.hid ((sliceP_in s.data.toList hb i j hij (by omega)).trans (by rw [slice_encs s.data.toList hb i j hij]))
      obtain ⟨k1, k2⟩ := okI_sub s.data.toList i j
      have K1 := Lib.hid k1
      have K2 := Lib.hid k2
      have hl9 : (((ptsI s.data.toList).take j).drop i).length ≤ 1000000000 := by rw [List.length_drop, List.length_take]; omega
      have Hl9 := Lib.hid hl9
      clear ho hn hlen hb k1 k2 hl9
      go_enter Try.func29, Try.ntmps29
      go_wp2_with (first
        | (go_at_call 17; (with_reducible refine (rfirst_at s (-1) ht4 Hz _).mono ?_); rintro e w3 ⟨rfl, hb3⟩; have hB := hB.trans (hb3.mono hB.size))
        | (go_at_call 23; (with_reducible refine (Hrp.out _).mono ?_); rintro e w5 ⟨ao, cap, rfl, hb5, hI⟩; have hB := hB.trans (hb5.mono hB.size); obtain ⟨hc1, hc2, hc3⟩ := hI.caps; rw [← hc1] at hc2; clear hc1; have hS := hI.sub i j hij hj)
        | (go_at_call 24; (with_reducible refine (rmake_at _ _ _ _ Hl9.out (by simpa [sliced] using hS) K1 K2).mono ?_); rintro e w6 ⟨rfl, hb6⟩; have hB := hB.trans (hb6.mono hB.size)))
      all_goals
        go_ret2
        exact ⟨rslice_fin hx.out, hB⟩
  · have hb' : (U.bad s.data.toList).isEmpty = false := by simpa using hb
    have hf := firstP_bad s hb'
    obtain ⟨z, hz⟩ : ∃ z, firstP s.data.toList = z := ⟨_, rfl⟩
    rw [hz] at hf
    have Hz := Lib.hid hz
    have hx := Lib.hid (sliceP_bad s.data.toList hb' a b)
    clear hz hb hb'
    go_enter Try.func29, Try.ntmps29
    go_wp2_with (go_at_call 17; (with_reducible refine (rfirst_at s z ht4 Hz _).mono ?_); rintro e w3 ⟨rfl, hb3⟩; have hB := hB.trans (hb3.mono hB.size))
    go_ret2
    exact ⟨rslice_fin (a := []) hx.out, hB⟩
theorem sliceP_len (l : List UInt8) (a b : Int) : (sliceP l a b).1.length ≤ l.length := by
  unfold sliceP
  split
  · split
    · simp
    · rw [List.length_take, List.length_drop]; omega
  · simp
theorem slice_at (s : ByteArray) (a b : Int) (x : List UInt8) (e : Int) (hs : s.size ≤ 4294967296) (h : Hid (sliceP s.data.toList a b = (x, e))) (w : World) :
    Calls Try.prog 28 #[.string s, .int .i64 a, .int .i64 b] w fun r w' => r = .returned (.tuple #[.string ⟨x.toArray⟩, .int .i64 e]) ∧ Below w.heap.size w w' := by
  have := slice_any s a b hs w
  rw [h.out] at this
  exact this
theorem rslice_at (s : ByteArray) (a b : Int) (x : List UInt8) (e : Int) (hs : s.size ≤ 1000000) (h : Hid (sliceP s.data.toList a b = (x, e))) (w : World) :
    Calls Try.prog 29 #[.string s, .int .i64 a, .int .i64 b] w fun r w' => r = .returned (.tuple #[.string ⟨x.toArray⟩, .int .i64 e]) ∧ Below w.heap.size w w' := by
  have := rslice_any s a b hs w
  rw [h.out] at this
  exact this
theorem arr_below {W w' : World} {T : TypeId} {a b c : Int} (hA : Below (W.alloc (Obj.cells #[.int .i64 a, .int .i64 b, .int .i64 c] T)).heap.size (W.alloc (Obj.cells #[.int .i64 a, .int .i64 b, .int .i64 c] T)) w') :
    w'.cell? ⟨W.heap.size, 0, none⟩ = some (.int .i64 a) ∧ w'.cell? ⟨W.heap.size, 1, none⟩ = some (.int .i64 b) ∧ w'.cell? ⟨W.heap.size, 2, none⟩ = some (.int .i64 c) := by
  refine ⟨?_, ?_, ?_⟩
  · rw [hA.cell (p := ⟨W.heap.size, 0, none⟩) (by simp), World.cell?_alloc_new]; rfl
  · rw [hA.cell (p := ⟨W.heap.size, 1, none⟩) (by simp), World.cell?_alloc_new]; rfl
  · rw [hA.cell (p := ⟨W.heap.size, 2, none⟩) (by simp), World.cell?_alloc_new]; rfl
set_option maxRecDepth 100000 in
set_option maxHeartbeats 800000 in
theorem lawSlices (s : ByteArray) (hs : s.size ≤ 9223372036854775807) (a b c : Int) (w : World) : Calls Try.prog 8 #[.string s, .agg #[.int .i64 a, .int .i64 b, .int .i64 c]] w (LawPost w) := by
  have hc := size_cutS s
  have hcut := Lib.hid (cut_any s hs)
  clear hs
  generalize cutS s = t at hc hcut
  have ht : t.size ≤ 1000000 := by omega
  have ht4 : t.size ≤ 4294967296 := by omega
  have hB : Below w.heap.size w (w.alloc (Obj.cells #[.int .i64 a, .int .i64 b, .int .i64 c] 43)) := (Below.refl _ _).alloc (Nat.le_refl _) _
  have hA : Below (w.alloc (Obj.cells #[.int .i64 a, .int .i64 b, .int .i64 c] 43)).heap.size (w.alloc (Obj.cells #[.int .i64 a, .int .i64 b, .int .i64 c] 43)) (w.alloc (Obj.cells #[.int .i64 a, .int .i64 b, .int .i64 c] 43)) := Below.refl _ _
  have hll : t.data.toList.length = t.size := by simp
  have l1 := sliceP_len t.data.toList a b
  have l2 := sliceP_len t.data.toList b c
  have l3 := sliceP_len t.data.toList a c
  rw [hll] at l1 l2 l3
  have hj := sliceP_join t.data.toList a b c
  obtain ⟨x, e1, hx⟩ : ∃ x e, sliceP t.data.toList a b = (x, e) := ⟨_, _, rfl⟩
  obtain ⟨y, e2, hy⟩ : ∃ x e, sliceP t.data.toList b c = (x, e) := ⟨_, _, rfl⟩
  obtain ⟨z, e3, hz⟩ : ∃ x e, sliceP t.data.toList a c = (x, e) := ⟨_, _, rfl⟩
  rw [hx] at l1 hj
  rw [hy] at l2 hj
  rw [hz] at l3 hj
  simp only at l1 l2 l3 hj
  have Hx := Lib.hid hx
  have Hy := Lib.hid hy
  have Hz := Lib.hid hz
  clear hx hy hz hll hc
  by_cases h1 : e1 = 0
  · by_cases h2 : e2 = 0
    · subst h1 h2
      have Hj := Lib.hid (hj rfl rfl)
      clear hj
      have hadd := fun w : World => run_add_lists (P := Try.prog) w x y (by omega)
      rw [Hj.out] at hadd
      go_enter Try.func8, Try.ntmps8
      go_wp2_with (first
        | (go_at_call 12; (with_reducible refine (hcut.out _).mono ?_); rintro e w' ⟨rfl, rfl⟩)
        | (go_at_call 28; (with_reducible refine (slice_at t a c z e3 ht4 Hz _).mono ?_); rintro e w2 ⟨rfl, hb2⟩; have hB := hB.trans (hb2.mono hB.size); have hA := hA.trans (hb2.mono hA.size); obtain ⟨hc0, hc1, hc2⟩ := arr_below hA)
        | (go_at_call 28; (with_reducible refine (slice_at t a b x 0 ht4 Hx _).mono ?_); rintro e w2 ⟨rfl, hb2⟩; have hB := hB.trans (hb2.mono hB.size); have hA := hA.trans (hb2.mono hA.size); obtain ⟨hc0, hc1, hc2⟩ := arr_below hA)
        | (go_at_call 28; (with_reducible refine (slice_at t b c y 0 ht4 Hy _).mono ?_); rintro e w2 ⟨rfl, hb2⟩; have hB := hB.trans (hb2.mono hB.size); have hA := hA.trans (hb2.mono hA.size); obtain ⟨hc0, hc1, hc2⟩ := arr_below hA)
        | (go_at_call 29; (with_reducible refine (rslice_at t a c z e3 ht Hz _).mono ?_); rintro e w2 ⟨rfl, hb2⟩; have hB := hB.trans (hb2.mono hB.size); have hA := hA.trans (hb2.mono hA.size); obtain ⟨hc0, hc1, hc2⟩ := arr_below hA)
        | (go_at_call 14; (with_reducible refine (known_any _).mono ?_); rintro e w1 ⟨rfl, hb1⟩; have hB := hB.trans (hb1.mono hB.size); have hA := hA.trans (hb1.mono hA.size); obtain ⟨hc0, hc1, hc2⟩ := arr_below hA))
      go_ret
      exact ⟨by simp, hB⟩
    · have h2' : (e2 != 0) = true := by simpa using h2
      clear hj
      subst h1
      go_enter Try.func8, Try.ntmps8
      go_wp2_with (first
        | (go_at_call 12; (with_reducible refine (hcut.out _).mono ?_); rintro e w' ⟨rfl, rfl⟩)
        | (go_at_call 28; (with_reducible refine (slice_at t a c z e3 ht4 Hz _).mono ?_); rintro e w2 ⟨rfl, hb2⟩; have hB := hB.trans (hb2.mono hB.size); have hA := hA.trans (hb2.mono hA.size); obtain ⟨hc0, hc1, hc2⟩ := arr_below hA)
        | (go_at_call 28; (with_reducible refine (slice_at t a b x 0 ht4 Hx _).mono ?_); rintro e w2 ⟨rfl, hb2⟩; have hB := hB.trans (hb2.mono hB.size); have hA := hA.trans (hb2.mono hA.size); obtain ⟨hc0, hc1, hc2⟩ := arr_below hA)
        | (go_at_call 28; (with_reducible refine (slice_at t b c y e2 ht4 Hy _).mono ?_); rintro e w2 ⟨rfl, hb2⟩; have hB := hB.trans (hb2.mono hB.size); have hA := hA.trans (hb2.mono hA.size); obtain ⟨hc0, hc1, hc2⟩ := arr_below hA)
        | (go_at_call 29; (with_reducible refine (rslice_at t a c z e3 ht Hz _).mono ?_); rintro e w2 ⟨rfl, hb2⟩; have hB := hB.trans (hb2.mono hB.size); have hA := hA.trans (hb2.mono hA.size); obtain ⟨hc0, hc1, hc2⟩ := arr_below hA)
        | (go_at_call 14; (with_reducible refine (known_any _).mono ?_); rintro e w1 ⟨rfl, hb1⟩; have hB := hB.trans (hb1.mono hB.size); have hA := hA.trans (hb1.mono hA.size); obtain ⟨hc0, hc1, hc2⟩ := arr_below hA))
      go_ret
      exact ⟨by simp, hB⟩
  · have h1' : (e1 != 0) = true := by simpa using h1
    clear hj
    go_enter Try.func8, Try.ntmps8
    go_wp2_with (first
      | (go_at_call 12; (with_reducible refine (hcut.out _).mono ?_); rintro e w' ⟨rfl, rfl⟩)
      | (go_at_call 28; (with_reducible refine (slice_at t a c z e3 ht4 Hz _).mono ?_); rintro e w2 ⟨rfl, hb2⟩; have hB := hB.trans (hb2.mono hB.size); have hA := hA.trans (hb2.mono hA.size); obtain ⟨hc0, hc1, hc2⟩ := arr_below hA)
      | (go_at_call 28; (with_reducible refine (slice_at t a b x e1 ht4 Hx _).mono ?_); rintro e w2 ⟨rfl, hb2⟩; have hB := hB.trans (hb2.mono hB.size); have hA := hA.trans (hb2.mono hA.size); obtain ⟨hc0, hc1, hc2⟩ := arr_below hA)
      | (go_at_call 28; (with_reducible refine (slice_at t b c y e2 ht4 Hy _).mono ?_); rintro e w2 ⟨rfl, hb2⟩; have hB := hB.trans (hb2.mono hB.size); have hA := hA.trans (hb2.mono hA.size); obtain ⟨hc0, hc1, hc2⟩ := arr_below hA)
      | (go_at_call 29; (with_reducible refine (rslice_at t a c z e3 ht Hz _).mono ?_); rintro e w2 ⟨rfl, hb2⟩; have hB := hB.trans (hb2.mono hB.size); have hA := hA.trans (hb2.mono hA.size); obtain ⟨hc0, hc1, hc2⟩ := arr_below hA)
      | (go_at_call 14; (with_reducible refine (known_any _).mono ?_); rintro e w1 ⟨rfl, hb1⟩; have hB := hB.trans (hb1.mono hB.size); have hA := hA.trans (hb1.mono hA.size); obtain ⟨hc0, hc1, hc2⟩ := arr_below hA))
    go_ret
    exact ⟨by simp, hB⟩
end Go.Proofs.Ytkoklnnlhfjbjaa
