/- The walk of the law CodepointOffsets. -/
import Derived.Test.YtkoklnnlhfjbjaaLwB
import Derived.Test.YtkoklnnlhfjbjaaLwP
namespace Go.Proofs.Ytkoklnnlhfjbjaa
open Go.RowKit
theorem unit_at (s : ByteArray) (o : Int) (a b : Nat) (hs : s.size ≤ 4294967296) (h : Hid (unitP s.data.toList o = (a, b))) (w : World) :
    Calls Try.prog 22 #[.string s, .int .i64 o] w fun e w' => e = .returned (.tuple #[.int .i64 a, .int .i64 b]) ∧ w = w' := by
  have := unit_any s o hs w
  rw [h.out] at this
  exact this
theorem Ints.caps {w : World} {l : List Int} {ao : Option Addr} {n cap : Nat} (h : Ints w (.slice ao n cap) l) : n = l.length ∧ l.length ≤ cap ∧ cap ≤ 9223372036854775807 := by
  obtain ⟨ao', cap', h1, h2, h3, h4⟩ := h
  simp only [Value.slice.injEq] at h1
  obtain ⟨rfl, rfl, rfl⟩ := h1
  unfold maxLen at h3
  exact ⟨rfl, h2, by omega⟩
/-- the reference's Make at the first k points of a valid string -/
theorem rmake_off (l : List UInt8) (n : Nat) (hn : n = (U.pts l).length) (hl : n ≤ 1000000000) (ao : Option Addr) (cap k : Nat) (hk : k ≤ n) (w : World) (hI : Ints w (.slice ao n cap) (ptsI l)) :
    Calls Try.prog 24 #[.slice ao k cap] w fun e w' => ∃ r : ByteArray, e = .returned (.string r) ∧ r.size = offN l k ∧ Below w.heap.size w w' := by
  have hlen : (ptsI l).length = n := by rw [ptsI_length, hn]
  have ht := hI.take k ao cap (by rw [hlen])
  rw [hlen, Nat.min_eq_left hk] at ht
  refine (rmake_at _ _ _ w (by rw [List.length_take]; omega) ht (Lib.hid (okI_takeP l k)) (Lib.hid (encI_take l k))).mono fun e w' h => ?_
  obtain ⟨he, hb⟩ := h
  exact ⟨_, he, by simp [ByteArray.size, offN], hb⟩
abbrev rmake_is (l : List UInt8) (n : Nat) (ao : Option Addr) (cap : Nat) (k : Nat) (o : Int) (c : Bool) : Prop :=
  ∀ w : World, Ints w (.slice ao n cap) (ptsI l) → Calls Try.prog 24 #[.slice ao k cap] w fun e w' => ∃ r : ByteArray, e = .returned (.string r) ∧ ((r.size : Int) == o) = c ∧ (o == (r.size : Int)) = c ∧ ((r.size : Int) != o) = (!c) ∧ (o != (r.size : Int)) = (!c) ∧ Below w.heap.size w w'
theorem rmake_is_of (l : List UInt8) (n : Nat) (hn : n = (U.pts l).length) (hl : n ≤ 1000000000) (ao : Option Addr) (cap k : Nat) (hk : k ≤ n) (o : Int) (c : Bool) (hc : decide ((offN l k : Int) = o) = c) : rmake_is l n ao cap k o c := by
  intro w hI
  refine (rmake_off l n hn hl ao cap k hk w hI).mono fun e w' h => ?_
  obtain ⟨r, he, hr, hb⟩ := h
  have h1 : ((r.size : Int) == o) = c := by rw [hr, ← hc]; rfl
  have h2 : (o == (r.size : Int)) = c := by rw [← h1]; exact Bool.beq_comm
  exact ⟨r, he, h1, h2, by rw [bne, h1], by rw [bne, h2], hb⟩
theorem found_or (l : List UInt8) (n : Nat) (o : Int) : (∃ i, i ≤ n ∧ (offN l i : Int) = o) ∨ ∀ i, i ≤ n → (offN l i : Int) ≠ o := by
  by_cases h : ∃ i, i ≤ n ∧ (offN l i : Int) = o
  · exact Or.inl h
  · exact Or.inr fun i hi he => h ⟨i, hi, he⟩
set_option maxRecDepth 100000 in
set_option maxHeartbeats 800000 in
theorem lawOffsets_bad (s : ByteArray) (hs : s.size ≤ 9223372036854775807) (u o : Int) (w : World) (hb : (U.bad (cutS s).data.toList).isEmpty = false) :
    Calls Try.prog 5 #[.string s, .int .i64 u, .int .i64 o] w (LawPost w) := by
  have hc := size_cutS s
  have hcut := Lib.hid (cut_any s hs)
  clear hs
  generalize cutS s = t at hc hcut hb
  have ht : t.size ≤ 4294967296 := by omega
  have hB : Below w.heap.size w w := Below.refl _ _
  have hf := firstP_bad t hb
  obtain ⟨z, hz⟩ : ∃ z, firstP t.data.toList = z := ⟨_, rfl⟩
  rw [hz] at hf
  have Hz := Lib.hid hz
  have HO := Lib.hid (offP_bad t.data.toList hb u)
  have HU := Lib.hid (unitP_bad t.data.toList hb o)
  clear hz hb
  go_enter Try.func5, Try.ntmps5
  go_wp2_with (first
    | (go_at_call 12; (with_reducible refine (hcut.out _).mono ?_); rintro e w' ⟨rfl, rfl⟩)
    | (go_at_call 21; (with_reducible refine (offset_at t u (0, 12) ht HO _).mono ?_); rintro e w2 ⟨rfl, hb2⟩; have hB := hB.trans (hb2.mono hB.size))
    | (go_at_call 22; (with_reducible refine (unit_at t o 0 12 ht HU _).mono ?_); rintro e w' ⟨rfl, rfl⟩)
    | (go_at_call 14; (with_reducible refine (known_any _).mono ?_); rintro e w1 ⟨rfl, hb1⟩; have hB := hB.trans (hb1.mono hB.size))
    | (go_at_call 17; (with_reducible refine (rfirst_at t z ht Hz _).mono ?_); rintro e w3 ⟨rfl, hb3⟩; have hB := hB.trans (hb3.mono hB.size)))
  go_ret
  exact ⟨rfl, hB⟩
set_option maxRecDepth 100000 in
set_option maxHeartbeats 1600000 in
theorem lawOffsetsInFound (s t : ByteArray) (hcut : Hid (∀ w, Calls Try.prog 12 #[.string s] w fun e w' => e = .returned (.string t) ∧ w = w')) (ht : t.size ≤ 1000000) (n : Nat) (hn : n = (U.pts t.data.toList).length) (hb : (U.bad t.data.toList).isEmpty = true) (ku : Nat) (hku : ku ≤ n) (i0 : Nat) (hi0 : i0 ≤ n) (o : Int) (hio : (offN t.data.toList i0 : Int) = o) (w : World) :
    Calls Try.prog 5 #[.string s, .int .i64 ku, .int .i64 o] w (LawPost w) := by
  have ht4 : t.size ≤ 4294967296 := by omega
  have hB : Below w.heap.size w w := Below.refl _ _
  have Hz := Lib.hid (firstP_good t hb)
  have hnt := ptsI_le t
  have hlen : (ptsI t.data.toList).length = n := by rw [ptsI_length, hn]
  rw [hlen] at hnt
  have hn9 : n ≤ 1000000000 := by omega
  have hrp := rpoints_good t ht4
  rw [hlen] at hrp
  have Hrp := Lib.hid hrp
  have Hmk := Lib.hid (rmake_is_of t.data.toList n hn hn9)
  have HO := Lib.hid (offP_in t.data.toList hb ku (by omega))
  have HU2 := Lib.hid (unitP_off t.data.toList hb ku (by omega))
  obtain ⟨a, ha⟩ : ∃ a, offN t.data.toList ku = a := ⟨_, rfl⟩
  rw [ha] at HO HU2
  have Hka := Lib.hid (show decide ((offN t.data.toList ku : Int) = (a : Int)) = true by rw [ha]; simp)
  have hle := offN_le t.data.toList hb ku
  rw [ha, show t.data.toList.length = t.size by simp] at hle
  clear ha
  have HU1 := Lib.hid (show unitP t.data.toList o = (i0, 0) by rw [← hio]; exact unitP_off t.data.toList hb i0 (by omega))
  have Hfind := Lib.hid (show ∀ k, k ≤ n → (offN t.data.toList k : Int) = o → k = i0 by
    intro k hk e
    have h1 := unitP_off t.data.toList hb k (by omega)
    rw [e, HU1.out] at h1
    exact (congrArg Prod.fst h1).symm)
  have Hio := Lib.hid hio
  clear hio
  clear hn hb hlen hrp
  go_enter Try.func5, Try.ntmps5
  go_wp2_with (first
    | (go_at_call 12; (with_reducible refine (hcut.out _).mono ?_); rintro e w' ⟨rfl, rfl⟩)
    | (go_at_call 21; (with_reducible refine (offset_at t ku (a, 0) ht4 HO _).mono ?_); rintro e w2 ⟨rfl, hb2⟩; have hB := hB.trans (hb2.mono hB.size))
    | (go_at_call 22; (with_reducible refine (unit_at t o i0 0 ht4 HU1 _).mono ?_); rintro e w' ⟨rfl, rfl⟩)
    | (go_at_call 22; (with_reducible refine (unit_at t a ku 0 ht4 HU2 _).mono ?_); rintro e w' ⟨rfl, rfl⟩)
    | (go_at_call 14; (with_reducible refine (known_any _).mono ?_); rintro e w1 ⟨rfl, hb1⟩; have hB := hB.trans (hb1.mono hB.size))
    | (go_at_call 17; (with_reducible refine (rfirst_at t (-1) ht4 Hz _).mono ?_); rintro e w3 ⟨rfl, hb3⟩; have hB := hB.trans (hb3.mono hB.size))
    | (go_at_call 23; (with_reducible refine (Hrp.out _).mono ?_); rintro e w5 ⟨ao, cap, rfl, hb5, hI⟩; have hB := hB.trans (hb5.mono hB.size); obtain ⟨hc1, hc2, hc3⟩ := hI.caps; rw [← hc1] at hc2; clear hc1)
    | (go_at_call 24; (with_reducible refine (Hmk.out ao cap ku hku a true Hka.out _ hI).mono ?_); rintro e w6 ⟨r, rfl, hr1, hr2, hr3, hr4, hb6⟩; have hB := hB.trans (hb6.mono hB.size); have hI := hI.below hb6))
  go_loopw [14] (fun i wr => ∃ k : Nat, k ≤ i0 ∧ i = .int .i64 k ∧ Below w.heap.size w wr ∧ Ints wr (.slice ao n cap) (ptsI t.data.toList)) (fun i _ => n + 1 - (intOf i).toNat)
  case atStart => exact ⟨0, Nat.zero_le _, rfl, hB, hI⟩
  case round =>
    clear hI hB
    obtain ⟨k, hk, rfl, hB, hI⟩ := hrel
    by_cases hki : k = i0
    · subst hki
      have hd := Lib.hid (show decide ((offN t.data.toList k : Int) = o) = true by rw [Hio.out]; simp)
      go_wp2_with (go_at_call 24; (with_reducible refine (Hmk.out ao cap k (by omega) o true hd.out _ hI).mono ?_); rintro e w7 ⟨q, rfl, hq1, hq2, hq3, hq4, hb7⟩; have hB := hB.trans (hb7.mono hB.size); have hI := hI.below hb7)
      go_ret
      exact ⟨by first | rfl | simp, hB⟩
    · have hd := Lib.hid (show decide ((offN t.data.toList k : Int) = o) = false from decide_eq_false fun e => hki (Hfind.out k (by omega) e))
      go_wp2_with (go_at_call 24; (with_reducible refine (Hmk.out ao cap k (by omega) o false hd.out _ hI).mono ?_); rintro e w7 ⟨q, rfl, hq1, hq2, hq3, hq4, hb7⟩; have hB := hB.trans (hb7.mono hB.size); have hI := hI.below hb7)
      go_roundw
      case rel => exact ⟨k + 1, by omega, by go_num, hB, hI⟩
      case measure => (simp [intOf] <;> omega)
set_option maxRecDepth 100000 in
set_option maxHeartbeats 1600000 in
theorem lawOffsetsInNo (s t : ByteArray) (hcut : Hid (∀ w, Calls Try.prog 12 #[.string s] w fun e w' => e = .returned (.string t) ∧ w = w')) (ht : t.size ≤ 1000000) (n : Nat) (hn : n = (U.pts t.data.toList).length) (hb : (U.bad t.data.toList).isEmpty = true) (ku : Nat) (hku : ku ≤ n) (o : Int) (hno : ∀ i, i ≤ n → (offN t.data.toList i : Int) ≠ o) (w : World) :
    Calls Try.prog 5 #[.string s, .int .i64 ku, .int .i64 o] w (LawPost w) := by
  have ht4 : t.size ≤ 4294967296 := by omega
  have hB : Below w.heap.size w w := Below.refl _ _
  have Hz := Lib.hid (firstP_good t hb)
  have hnt := ptsI_le t
  have hlen : (ptsI t.data.toList).length = n := by rw [ptsI_length, hn]
  rw [hlen] at hnt
  have hn9 : n ≤ 1000000000 := by omega
  have hrp := rpoints_good t ht4
  rw [hlen] at hrp
  have Hrp := Lib.hid hrp
  have Hmk := Lib.hid (rmake_is_of t.data.toList n hn hn9)
  have HO := Lib.hid (offP_in t.data.toList hb ku (by omega))
  have HU2 := Lib.hid (unitP_off t.data.toList hb ku (by omega))
  obtain ⟨a, ha⟩ : ∃ a, offN t.data.toList ku = a := ⟨_, rfl⟩
  rw [ha] at HO HU2
  have Hka := Lib.hid (show decide ((offN t.data.toList ku : Int) = (a : Int)) = true by rw [ha]; simp)
  have hle := offN_le t.data.toList hb ku
  rw [ha, show t.data.toList.length = t.size by simp] at hle
  clear ha
  have HU1 := Lib.hid (unitP_no t.data.toList hb o (by rw [← hn]; exact hno))
  have Hno := Lib.hid hno
  clear hno
  clear hn hb hlen hrp
  go_enter Try.func5, Try.ntmps5
  go_wp2_with (first
    | (go_at_call 12; (with_reducible refine (hcut.out _).mono ?_); rintro e w' ⟨rfl, rfl⟩)
    | (go_at_call 21; (with_reducible refine (offset_at t ku (a, 0) ht4 HO _).mono ?_); rintro e w2 ⟨rfl, hb2⟩; have hB := hB.trans (hb2.mono hB.size))
    | (go_at_call 22; (with_reducible refine (unit_at t o 0 2 ht4 HU1 _).mono ?_); rintro e w' ⟨rfl, rfl⟩)
    | (go_at_call 22; (with_reducible refine (unit_at t a ku 0 ht4 HU2 _).mono ?_); rintro e w' ⟨rfl, rfl⟩)
    | (go_at_call 14; (with_reducible refine (known_any _).mono ?_); rintro e w1 ⟨rfl, hb1⟩; have hB := hB.trans (hb1.mono hB.size))
    | (go_at_call 17; (with_reducible refine (rfirst_at t (-1) ht4 Hz _).mono ?_); rintro e w3 ⟨rfl, hb3⟩; have hB := hB.trans (hb3.mono hB.size))
    | (go_at_call 23; (with_reducible refine (Hrp.out _).mono ?_); rintro e w5 ⟨ao, cap, rfl, hb5, hI⟩; have hB := hB.trans (hb5.mono hB.size); obtain ⟨hc1, hc2, hc3⟩ := hI.caps; rw [← hc1] at hc2; clear hc1)
    | (go_at_call 24; (with_reducible refine (Hmk.out ao cap ku hku a true Hka.out _ hI).mono ?_); rintro e w6 ⟨r, rfl, hr1, hr2, hr3, hr4, hb6⟩; have hB := hB.trans (hb6.mono hB.size); have hI := hI.below hb6))
  go_loopw [14] (fun i wr => ∃ k : Nat, k ≤ n + 1 ∧ i = .int .i64 k ∧ Below w.heap.size w wr ∧ Ints wr (.slice ao n cap) (ptsI t.data.toList)) (fun i _ => n + 1 - (intOf i).toNat)
  case atStart => exact ⟨0, Nat.zero_le _, rfl, hB, hI⟩
  case round =>
    clear hI hB
    obtain ⟨k, hk, rfl, hB, hI⟩ := hrel
    by_cases hkn : k ≤ n
    · have hd := Lib.hid (show decide ((offN t.data.toList k : Int) = o) = false from decide_eq_false (Hno.out k hkn))
      go_wp2_with (go_at_call 24; (with_reducible refine (Hmk.out ao cap k (by omega) o false hd.out _ hI).mono ?_); rintro e w7 ⟨q, rfl, hq1, hq2, hq3, hq4, hb7⟩; have hB := hB.trans (hb7.mono hB.size); have hI := hI.below hb7)
      go_roundw
      case rel => exact ⟨k + 1, by omega, by go_num, hB, hI⟩
      case measure => (simp [intOf] <;> omega)
    · go_wp2
      go_ret
      exact ⟨rfl, hB⟩
set_option maxRecDepth 100000 in
set_option maxHeartbeats 1600000 in
theorem lawOffsetsNegFound (s t : ByteArray) (hcut : Hid (∀ w, Calls Try.prog 12 #[.string s] w fun e w' => e = .returned (.string t) ∧ w = w')) (ht : t.size ≤ 1000000) (n : Nat) (hn : n = (U.pts t.data.toList).length) (hb : (U.bad t.data.toList).isEmpty = true) (u : Int) (hu : u < 0) (i0 : Nat) (hi0 : i0 ≤ n) (o : Int) (hio : (offN t.data.toList i0 : Int) = o) (w : World) :
    Calls Try.prog 5 #[.string s, .int .i64 u, .int .i64 o] w (LawPost w) := by
  have ht4 : t.size ≤ 4294967296 := by omega
  have hB : Below w.heap.size w w := Below.refl _ _
  have Hz := Lib.hid (firstP_good t hb)
  have hnt := ptsI_le t
  have hlen : (ptsI t.data.toList).length = n := by rw [ptsI_length, hn]
  rw [hlen] at hnt
  have hn9 : n ≤ 1000000000 := by omega
  have hrp := rpoints_good t ht4
  rw [hlen] at hrp
  have Hrp := Lib.hid hrp
  have Hmk := Lib.hid (rmake_is_of t.data.toList n hn hn9)
  have HO := Lib.hid (offP_out t.data.toList hb u (by rw [← hn]; omega))
  have HU1 := Lib.hid (show unitP t.data.toList o = (i0, 0) by rw [← hio]; exact unitP_off t.data.toList hb i0 (by omega))
  have Hfind := Lib.hid (show ∀ k, k ≤ n → (offN t.data.toList k : Int) = o → k = i0 by
    intro k hk e
    have h1 := unitP_off t.data.toList hb k (by omega)
    rw [e, HU1.out] at h1
    exact (congrArg Prod.fst h1).symm)
  have Hio := Lib.hid hio
  clear hio
  clear hn hb hlen hrp
  go_enter Try.func5, Try.ntmps5
  go_wp2_with (first
    | (go_at_call 12; (with_reducible refine (hcut.out _).mono ?_); rintro e w' ⟨rfl, rfl⟩)
    | (go_at_call 21; (with_reducible refine (offset_at t u (0, 2) ht4 HO _).mono ?_); rintro e w2 ⟨rfl, hb2⟩; have hB := hB.trans (hb2.mono hB.size))
    | (go_at_call 22; (with_reducible refine (unit_at t o i0 0 ht4 HU1 _).mono ?_); rintro e w' ⟨rfl, rfl⟩)
    | (go_at_call 14; (with_reducible refine (known_any _).mono ?_); rintro e w1 ⟨rfl, hb1⟩; have hB := hB.trans (hb1.mono hB.size))
    | (go_at_call 17; (with_reducible refine (rfirst_at t (-1) ht4 Hz _).mono ?_); rintro e w3 ⟨rfl, hb3⟩; have hB := hB.trans (hb3.mono hB.size))
    | (go_at_call 23; (with_reducible refine (Hrp.out _).mono ?_); rintro e w5 ⟨ao, cap, rfl, hb5, hI⟩; have hB := hB.trans (hb5.mono hB.size); obtain ⟨hc1, hc2, hc3⟩ := hI.caps; rw [← hc1] at hc2; clear hc1))
  go_loopw [14] (fun i wr => ∃ k : Nat, k ≤ i0 ∧ i = .int .i64 k ∧ Below w.heap.size w wr ∧ Ints wr (.slice ao n cap) (ptsI t.data.toList)) (fun i _ => n + 1 - (intOf i).toNat)
  case atStart => exact ⟨0, Nat.zero_le _, rfl, hB, hI⟩
  case round =>
    clear hI hB
    obtain ⟨k, hk, rfl, hB, hI⟩ := hrel
    by_cases hki : k = i0
    · subst hki
      have hd := Lib.hid (show decide ((offN t.data.toList k : Int) = o) = true by rw [Hio.out]; simp)
      go_wp2_with (go_at_call 24; (with_reducible refine (Hmk.out ao cap k (by omega) o true hd.out _ hI).mono ?_); rintro e w7 ⟨q, rfl, hq1, hq2, hq3, hq4, hb7⟩; have hB := hB.trans (hb7.mono hB.size); have hI := hI.below hb7)
      go_ret
      exact ⟨by first | rfl | simp, hB⟩
    · have hd := Lib.hid (show decide ((offN t.data.toList k : Int) = o) = false from decide_eq_false fun e => hki (Hfind.out k (by omega) e))
      go_wp2_with (go_at_call 24; (with_reducible refine (Hmk.out ao cap k (by omega) o false hd.out _ hI).mono ?_); rintro e w7 ⟨q, rfl, hq1, hq2, hq3, hq4, hb7⟩; have hB := hB.trans (hb7.mono hB.size); have hI := hI.below hb7)
      go_roundw
      case rel => exact ⟨k + 1, by omega, by go_num, hB, hI⟩
      case measure => (simp [intOf] <;> omega)
set_option maxRecDepth 100000 in
set_option maxHeartbeats 1600000 in
theorem lawOffsetsNegNo (s t : ByteArray) (hcut : Hid (∀ w, Calls Try.prog 12 #[.string s] w fun e w' => e = .returned (.string t) ∧ w = w')) (ht : t.size ≤ 1000000) (n : Nat) (hn : n = (U.pts t.data.toList).length) (hb : (U.bad t.data.toList).isEmpty = true) (u : Int) (hu : u < 0) (o : Int) (hno : ∀ i, i ≤ n → (offN t.data.toList i : Int) ≠ o) (w : World) :
    Calls Try.prog 5 #[.string s, .int .i64 u, .int .i64 o] w (LawPost w) := by
  have ht4 : t.size ≤ 4294967296 := by omega
  have hB : Below w.heap.size w w := Below.refl _ _
  have Hz := Lib.hid (firstP_good t hb)
  have hnt := ptsI_le t
  have hlen : (ptsI t.data.toList).length = n := by rw [ptsI_length, hn]
  rw [hlen] at hnt
  have hn9 : n ≤ 1000000000 := by omega
  have hrp := rpoints_good t ht4
  rw [hlen] at hrp
  have Hrp := Lib.hid hrp
  have Hmk := Lib.hid (rmake_is_of t.data.toList n hn hn9)
  have HO := Lib.hid (offP_out t.data.toList hb u (by rw [← hn]; omega))
  have HU1 := Lib.hid (unitP_no t.data.toList hb o (by rw [← hn]; exact hno))
  have Hno := Lib.hid hno
  clear hno
  clear hn hb hlen hrp
  go_enter Try.func5, Try.ntmps5
  go_wp2_with (first
    | (go_at_call 12; (with_reducible refine (hcut.out _).mono ?_); rintro e w' ⟨rfl, rfl⟩)
    | (go_at_call 21; (with_reducible refine (offset_at t u (0, 2) ht4 HO _).mono ?_); rintro e w2 ⟨rfl, hb2⟩; have hB := hB.trans (hb2.mono hB.size))
    | (go_at_call 22; (with_reducible refine (unit_at t o 0 2 ht4 HU1 _).mono ?_); rintro e w' ⟨rfl, rfl⟩)
    | (go_at_call 14; (with_reducible refine (known_any _).mono ?_); rintro e w1 ⟨rfl, hb1⟩; have hB := hB.trans (hb1.mono hB.size))
    | (go_at_call 17; (with_reducible refine (rfirst_at t (-1) ht4 Hz _).mono ?_); rintro e w3 ⟨rfl, hb3⟩; have hB := hB.trans (hb3.mono hB.size))
    | (go_at_call 23; (with_reducible refine (Hrp.out _).mono ?_); rintro e w5 ⟨ao, cap, rfl, hb5, hI⟩; have hB := hB.trans (hb5.mono hB.size); obtain ⟨hc1, hc2, hc3⟩ := hI.caps; rw [← hc1] at hc2; clear hc1))
  go_loopw [14] (fun i wr => ∃ k : Nat, k ≤ n + 1 ∧ i = .int .i64 k ∧ Below w.heap.size w wr ∧ Ints wr (.slice ao n cap) (ptsI t.data.toList)) (fun i _ => n + 1 - (intOf i).toNat)
  case atStart => exact ⟨0, Nat.zero_le _, rfl, hB, hI⟩
  case round =>
    clear hI hB
    obtain ⟨k, hk, rfl, hB, hI⟩ := hrel
    by_cases hkn : k ≤ n
    · have hd := Lib.hid (show decide ((offN t.data.toList k : Int) = o) = false from decide_eq_false (Hno.out k hkn))
      go_wp2_with (go_at_call 24; (with_reducible refine (Hmk.out ao cap k (by omega) o false hd.out _ hI).mono ?_); rintro e w7 ⟨q, rfl, hq1, hq2, hq3, hq4, hb7⟩; have hB := hB.trans (hb7.mono hB.size); have hI := hI.below hb7)
      go_roundw
      case rel => exact ⟨k + 1, by omega, by go_num, hB, hI⟩
      case measure => (simp [intOf] <;> omega)
    · go_wp2
      go_ret
      exact ⟨rfl, hB⟩
set_option maxRecDepth 100000 in
set_option maxHeartbeats 1600000 in
theorem lawOffsetsBigFound (s t : ByteArray) (hcut : Hid (∀ w, Calls Try.prog 12 #[.string s] w fun e w' => e = .returned (.string t) ∧ w = w')) (ht : t.size ≤ 1000000) (n : Nat) (hn : n = (U.pts t.data.toList).length) (hb : (U.bad t.data.toList).isEmpty = true) (u : Int) (hu0 : 0 ≤ u) (hu : (n : Int) < u) (i0 : Nat) (hi0 : i0 ≤ n) (o : Int) (hio : (offN t.data.toList i0 : Int) = o) (w : World) :
    Calls Try.prog 5 #[.string s, .int .i64 u, .int .i64 o] w (LawPost w) := by
  have ht4 : t.size ≤ 4294967296 := by omega
  have hB : Below w.heap.size w w := Below.refl _ _
  have Hz := Lib.hid (firstP_good t hb)
  have hnt := ptsI_le t
  have hlen : (ptsI t.data.toList).length = n := by rw [ptsI_length, hn]
  rw [hlen] at hnt
  have hn9 : n ≤ 1000000000 := by omega
  have hrp := rpoints_good t ht4
  rw [hlen] at hrp
  have Hrp := Lib.hid hrp
  have Hmk := Lib.hid (rmake_is_of t.data.toList n hn hn9)
  have HO := Lib.hid (offP_out t.data.toList hb u (by rw [← hn]; omega))
  have HU1 := Lib.hid (show unitP t.data.toList o = (i0, 0) by rw [← hio]; exact unitP_off t.data.toList hb i0 (by omega))
  have Hfind := Lib.hid (show ∀ k, k ≤ n → (offN t.data.toList k : Int) = o → k = i0 by
    intro k hk e
    have h1 := unitP_off t.data.toList hb k (by omega)
    rw [e, HU1.out] at h1
    exact (congrArg Prod.fst h1).symm)
  have Hio := Lib.hid hio
  clear hio
  clear hn hb hlen hrp
  go_enter Try.func5, Try.ntmps5
  go_wp2_with (first
    | (go_at_call 12; (with_reducible refine (hcut.out _).mono ?_); rintro e w' ⟨rfl, rfl⟩)
    | (go_at_call 21; (with_reducible refine (offset_at t u (0, 2) ht4 HO _).mono ?_); rintro e w2 ⟨rfl, hb2⟩; have hB := hB.trans (hb2.mono hB.size))
    | (go_at_call 22; (with_reducible refine (unit_at t o i0 0 ht4 HU1 _).mono ?_); rintro e w' ⟨rfl, rfl⟩)
    | (go_at_call 14; (with_reducible refine (known_any _).mono ?_); rintro e w1 ⟨rfl, hb1⟩; have hB := hB.trans (hb1.mono hB.size))
    | (go_at_call 17; (with_reducible refine (rfirst_at t (-1) ht4 Hz _).mono ?_); rintro e w3 ⟨rfl, hb3⟩; have hB := hB.trans (hb3.mono hB.size))
    | (go_at_call 23; (with_reducible refine (Hrp.out _).mono ?_); rintro e w5 ⟨ao, cap, rfl, hb5, hI⟩; have hB := hB.trans (hb5.mono hB.size); obtain ⟨hc1, hc2, hc3⟩ := hI.caps; rw [← hc1] at hc2; clear hc1))
  go_loopw [14] (fun i wr => ∃ k : Nat, k ≤ i0 ∧ i = .int .i64 k ∧ Below w.heap.size w wr ∧ Ints wr (.slice ao n cap) (ptsI t.data.toList)) (fun i _ => n + 1 - (intOf i).toNat)
  case atStart => exact ⟨0, Nat.zero_le _, rfl, hB, hI⟩
  case round =>
    clear hI hB
    obtain ⟨k, hk, rfl, hB, hI⟩ := hrel
    by_cases hki : k = i0
    · subst hki
      have hd := Lib.hid (show decide ((offN t.data.toList k : Int) = o) = true by rw [Hio.out]; simp)
      go_wp2_with (go_at_call 24; (with_reducible refine (Hmk.out ao cap k (by omega) o true hd.out _ hI).mono ?_); rintro e w7 ⟨q, rfl, hq1, hq2, hq3, hq4, hb7⟩; have hB := hB.trans (hb7.mono hB.size); have hI := hI.below hb7)
      go_ret
      exact ⟨by first | rfl | simp, hB⟩
    · have hd := Lib.hid (show decide ((offN t.data.toList k : Int) = o) = false from decide_eq_false fun e => hki (Hfind.out k (by omega) e))
      go_wp2_with (go_at_call 24; (with_reducible refine (Hmk.out ao cap k (by omega) o false hd.out _ hI).mono ?_); rintro e w7 ⟨q, rfl, hq1, hq2, hq3, hq4, hb7⟩; have hB := hB.trans (hb7.mono hB.size); have hI := hI.below hb7)
      go_roundw
      case rel => exact ⟨k + 1, by omega, by go_num, hB, hI⟩
      case measure => (simp [intOf] <;> omega)
set_option maxRecDepth 100000 in
set_option maxHeartbeats 1600000 in
theorem lawOffsetsBigNo (s t : ByteArray) (hcut : Hid (∀ w, Calls Try.prog 12 #[.string s] w fun e w' => e = .returned (.string t) ∧ w = w')) (ht : t.size ≤ 1000000) (n : Nat) (hn : n = (U.pts t.data.toList).length) (hb : (U.bad t.data.toList).isEmpty = true) (u : Int) (hu0 : 0 ≤ u) (hu : (n : Int) < u) (o : Int) (hno : ∀ i, i ≤ n → (offN t.data.toList i : Int) ≠ o) (w : World) :
    Calls Try.prog 5 #[.string s, .int .i64 u, .int .i64 o] w (LawPost w) := by
  have ht4 : t.size ≤ 4294967296 := by omega
  have hB : Below w.heap.size w w := Below.refl _ _
  have Hz := Lib.hid (firstP_good t hb)
  have hnt := ptsI_le t
  have hlen : (ptsI t.data.toList).length = n := by rw [ptsI_length, hn]
  rw [hlen] at hnt
  have hn9 : n ≤ 1000000000 := by omega
  have hrp := rpoints_good t ht4
  rw [hlen] at hrp
  have Hrp := Lib.hid hrp
  have Hmk := Lib.hid (rmake_is_of t.data.toList n hn hn9)
  have HO := Lib.hid (offP_out t.data.toList hb u (by rw [← hn]; omega))
  have HU1 := Lib.hid (unitP_no t.data.toList hb o (by rw [← hn]; exact hno))
  have Hno := Lib.hid hno
  clear hno
  clear hn hb hlen hrp
  go_enter Try.func5, Try.ntmps5
  go_wp2_with (first
    | (go_at_call 12; (with_reducible refine (hcut.out _).mono ?_); rintro e w' ⟨rfl, rfl⟩)
    | (go_at_call 21; (with_reducible refine (offset_at t u (0, 2) ht4 HO _).mono ?_); rintro e w2 ⟨rfl, hb2⟩; have hB := hB.trans (hb2.mono hB.size))
    | (go_at_call 22; (with_reducible refine (unit_at t o 0 2 ht4 HU1 _).mono ?_); rintro e w' ⟨rfl, rfl⟩)
    | (go_at_call 14; (with_reducible refine (known_any _).mono ?_); rintro e w1 ⟨rfl, hb1⟩; have hB := hB.trans (hb1.mono hB.size))
    | (go_at_call 17; (with_reducible refine (rfirst_at t (-1) ht4 Hz _).mono ?_); rintro e w3 ⟨rfl, hb3⟩; have hB := hB.trans (hb3.mono hB.size))
    | (go_at_call 23; (with_reducible refine (Hrp.out _).mono ?_); rintro e w5 ⟨ao, cap, rfl, hb5, hI⟩; have hB := hB.trans (hb5.mono hB.size); obtain ⟨hc1, hc2, hc3⟩ := hI.caps; rw [← hc1] at hc2; clear hc1))
  go_loopw [14] (fun i wr => ∃ k : Nat, k ≤ n + 1 ∧ i = .int .i64 k ∧ Below w.heap.size w wr ∧ Ints wr (.slice ao n cap) (ptsI t.data.toList)) (fun i _ => n + 1 - (intOf i).toNat)
  case atStart => exact ⟨0, Nat.zero_le _, rfl, hB, hI⟩
  case round =>
    clear hI hB
    obtain ⟨k, hk, rfl, hB, hI⟩ := hrel
    by_cases hkn : k ≤ n
    · have hd := Lib.hid (show decide ((offN t.data.toList k : Int) = o) = false from decide_eq_false (Hno.out k hkn))
      go_wp2_with (go_at_call 24; (with_reducible refine (Hmk.out ao cap k (by omega) o false hd.out _ hI).mono ?_); rintro e w7 ⟨q, rfl, hq1, hq2, hq3, hq4, hb7⟩; have hB := hB.trans (hb7.mono hB.size); have hI := hI.below hb7)
      go_roundw
      case rel => exact ⟨k + 1, by omega, by go_num, hB, hI⟩
      case measure => (simp [intOf] <;> omega)
    · go_wp2
      go_ret
      exact ⟨rfl, hB⟩
theorem lawOffsets (s : ByteArray) (hs : s.size ≤ 9223372036854775807) (u o : Int) (w : World) : Calls Try.prog 5 #[.string s, .int .i64 u, .int .i64 o] w (LawPost w) := by
  by_cases hb : (U.bad (cutS s).data.toList).isEmpty = true
  · have hc := size_cutS s
    have ht : (cutS s).size ≤ 1000000 := by omega
    obtain ⟨n, hn⟩ : ∃ n, n = (U.pts (cutS s).data.toList).length := ⟨_, rfl⟩
    have hcut := Lib.hid (cut_any s hs)
    rcases (by omega : u < 0 ∨ (0 ≤ u ∧ (n : Int) < u) ∨ (0 ≤ u ∧ u ≤ n)) with hu | ⟨hu0, hu⟩ | ⟨hu0, hu⟩
    · rcases found_or (cutS s).data.toList n o with ⟨i, hi, he⟩ | hno
      · exact lawOffsetsNegFound s _ hcut ht n hn hb u hu i hi o he w
      · exact lawOffsetsNegNo s _ hcut ht n hn hb u hu o hno w
    · rcases found_or (cutS s).data.toList n o with ⟨i, hi, he⟩ | hno
      · exact lawOffsetsBigFound s _ hcut ht n hn hb u hu0 hu i hi o he w
      · exact lawOffsetsBigNo s _ hcut ht n hn hb u hu0 hu o hno w
    · obtain ⟨k, rfl⟩ := Int.eq_ofNat_of_zero_le (show 0 ≤ u by omega)
      have hk : k ≤ n := by omega
      rcases found_or (cutS s).data.toList n o with ⟨i, hi, he⟩ | hno
      · exact lawOffsetsInFound s _ hcut ht n hn hb k hk i hi o he w
      · exact lawOffsetsInNo s _ hcut ht n hn hb k hk o hno w
  · exact lawOffsets_bad s hs u o w (by simpa using hb)
end Go.Proofs.Ytkoklnnlhfjbjaa
