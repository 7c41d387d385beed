/- The walk of the law CodepointMakes. -/
import Derived.Test.YtkoklnnlhfjbjaaLwA
namespace Go.Proofs.Ytkoklnnlhfjbjaa
open Go.RowKit
theorem Ints.cells {w : World} {l : List Int} {b off n cap : Nat} (h : Ints w (.slice (some ⟨b, off, none⟩) n cap) l) : b < w.heap.size ∨ l = [] := by
  obtain ⟨ao, cap', h1, h2, h3, h4⟩ := h
  simp only [Value.slice.injEq] at h1
  obtain ⟨rfl, rfl, rfl⟩ := h1
  cases l with
  | nil => exact Or.inr rfl
  | cons x r =>
    obtain ⟨b', off', e, hlt, _⟩ := h4 (by simp)
    simp only [Option.some.injEq, Addr.mk.injEq] at e
    obtain ⟨rfl, rfl, _⟩ := e
    exact Or.inl hlt
theorem Ints.cellAt {w : World} {l : List Int} {b off n cap : Nat} (h : Ints w (.slice (some ⟨b, off, none⟩) n cap) l) (j : Nat) (hj : j < l.length) : w.cell? ⟨b, off + j, none⟩ = some (.int .i64 (l.getD j 0)) := by
  obtain ⟨ao, cap', h1, h2, h3, h4⟩ := h
  simp only [Value.slice.injEq] at h1
  obtain ⟨rfl, rfl, rfl⟩ := h1
  obtain ⟨b', off', e, hlt, hc⟩ := h4 (by omega)
  simp only [Option.some.injEq, Addr.mk.injEq] at e
  obtain ⟨rfl, rfl, _⟩ := e
  exact hc j hj
theorem refIsPoint_in (p : Int) (b : Bool) (h : Hid (isPtI p = b)) (w : World) :
    Calls Try.prog 19 #[.int .i64 p] w fun e w' => e = .returned (.bool b) ∧ w = w' := refIsPoint_at p b h w
theorem rmake_at (v : Value) (l : List Int) (t : List UInt8) (w : World) (hl : l.length ≤ 1000000000) (hv : Ints w v l) (hok : Hid (okI l = true)) (h : Hid (encI l = t)) :
    Calls Try.prog 24 #[v] w fun e w' => e = .returned (.string ⟨t.toArray⟩) ∧ Below w.heap.size w w' := by
  have := rmake_any v l w hl hv hok
  rw [h.out] at this
  exact this
theorem okI_take_no (l : List Int) (h : okI l = false) : ∃ k, k < l.length ∧ isPtI (l.getD k 0) = false := by
  unfold okI at h
  rw [List.all_eq_false] at h
  obtain ⟨x, hx, hn⟩ := h
  obtain ⟨k, hk, rfl⟩ := List.getElem_of_mem hx
  exact ⟨k, hk, by rw [List.getD, List.getElem?_eq_getElem hk]; simpa using hn⟩
--GEN--
set_option maxRecDepth 100000 in
set_option maxHeartbeats 1600000 in
theorem lawMakes_short (l : List Int) (b off cap : Nat) (w : World) (hl : l.length ≤ 100) (hcap : l.length ≤ cap) (_hcm : cap ≤ maxLen) (hI : Ints w (.slice (some ⟨b, off, none⟩) l.length cap) l) (hpos : 0 < l.length) :
    Calls Try.prog 11 #[.slice (some ⟨b, off, none⟩) l.length cap] w (LawPost w) := by
  unfold maxLen at _hcm
  have hlen : Hid (l.length = l.length) := Lib.hid rfl
  have hlt : b < w.heap.size := by
    rcases hI.cells with h | h
    · exact h
    · rw [h] at hpos; simp at hpos
  have hl9 : l.length ≤ 1000000000 := by have := hlen.out; omega
  have hB : Below w.heap.size w w := Below.refl _ _
  have hmin : min (l.length : Int) 100 = (l.length : Int) := by omega
  obtain ⟨c, hc⟩ : ∃ c, okI l = c := ⟨_, rfl⟩
  have Hc := Lib.hid hc
  cases c
  · have hmk := Lib.hid (show makeP l = ([], 2) by unfold makeP; rw [hc]; rfl)
    clear hc
    go_enter Try.func11, Try.ntmps11
    go_wp2_with (first
      | (go_at_call 35; (with_reducible refine (make_at _ l _ 2 _ hl9 hI hmk).mono ?_); rintro e w4 ⟨rfl, hb4⟩; have hB := hB.trans (hb4.mono hB.size); have hI := hI.below hb4)
      | (go_at_call 14; (with_reducible refine (known_any _).mono ?_); rintro e w1 ⟨rfl, hb1⟩; have hB := hB.trans (hb1.mono hB.size); have hI := hI.below hb1))
    go_loopw [5] (fun i wr => ∃ k : Nat, k ≤ l.length ∧ i = .int .i64 k ∧ okI (l.take k) = true ∧ wr = w1) (fun i _ => l.length - (intOf i).toNat)
    case atStart => exact ⟨0, Nat.zero_le _, rfl, rfl, rfl⟩
    case round =>
      obtain ⟨k, hk, rfl, hok, rfl⟩ := hrel
      by_cases hlk : k < l.length
      · have hcell := hI.cellAt k (by have := hlen.out; omega)
        have hos := okI_snoc l k (by have := hlen.out; omega)
        generalize l.getD k 0 = z at hcell hos
        obtain ⟨q, hq⟩ : ∃ q, isPtI z = q := ⟨_, rfl⟩
        have Hq := Lib.hid hq
        rw [hok, hq] at hos
        have Hos := Lib.hid hos
        clear hok hq hos
        cases q
        · go_wp2_with (go_at_call 19; (with_reducible refine (refIsPoint_at _ _ Hq _).mono ?_); rintro e w' ⟨rfl, rfl⟩)
          go_ret
          exact ⟨rfl, hB⟩
        · go_wp2_with (go_at_call 19; (with_reducible refine (refIsPoint_at _ _ Hq _).mono ?_); rintro e w' ⟨rfl, rfl⟩)
          go_roundw
          case rel => exact ⟨k + 1, by omega, by go_num, Hos.out, by simp⟩
          case measure => (simp [intOf] <;> omega)
      · exfalso
        rw [List.take_of_length_le (by have := hlen.out; omega), Hc.out] at hok
        exact absurd hok (by simp)
  · have hmk := Lib.hid (show makeP l = (encI l, 0) by unfold makeP; rw [hc]; rfl)
    obtain ⟨hpm, hbe⟩ := pts_make l hc
    clear hc
    have hel : Hid ((encI l).length ≤ 4000000000) := by have := encI_len l l.length; rw [List.take_of_length_le (Nat.le_refl _)] at this; exact Lib.hid (by omega)
    obtain ⟨E, hE⟩ : ∃ E, encI l = E := ⟨_, rfl⟩
    rw [hE] at hmk hpm hbe hel
    have HE := Lib.hid hE
    have hsz : (⟨E.toArray⟩ : ByteArray).size ≤ 4294967296 := by have := hel.out; simp [ByteArray.size]; omega
    have hdl : (⟨E.toArray⟩ : ByteArray).data.toList = E := by simp
    have hpg := points_good ⟨E.toArray⟩ hsz (by rw [hdl]; exact hbe)
    rw [hdl, hpm] at hpg
    have Hpg := Lib.hid hpg
    clear hpg hdl hE hpm hbe
    have hp : ∀ k, k < l.length → Hid (isPtI (l.getD k 0) = true) := fun k hk => by
      cases h : isPtI (l.getD k 0)
      · have := okI_no l k hk h; rw [Hc.out] at this; exact absurd this (by simp)
      · exact Lib.hid rfl
    go_enter Try.func11, Try.ntmps11
    go_wp2_with (first
      | (go_at_call 35; (with_reducible refine (make_at _ l _ 0 _ hl9 hI hmk).mono ?_); rintro e w4 ⟨rfl, hb4⟩; have hB := hB.trans (hb4.mono hB.size); have hI := hI.below hb4)
      | (go_at_call 14; (with_reducible refine (known_any _).mono ?_); rintro e w1 ⟨rfl, hb1⟩; have hB := hB.trans (hb1.mono hB.size); have hI := hI.below hb1))
    go_loopw [5] (fun i wr => ∃ k : Nat, k ≤ l.length ∧ i = .int .i64 k ∧ wr = w1) (fun i _ => l.length - (intOf i).toNat)
    case atStart => exact ⟨0, Nat.zero_le _, rfl, rfl⟩
    case round =>
      obtain ⟨k, hk, rfl, rfl⟩ := hrel
      by_cases hlk : k < l.length
      · have hcell := hI.cellAt k (by have := hlen.out; omega)
        have Hq := hp k (by have := hlen.out; omega)
        generalize l.getD k 0 = z at hcell Hq
        clear hp
        go_wp2_with (go_at_call 19; (with_reducible refine (refIsPoint_at _ _ Hq _).mono ?_); rintro e w' ⟨rfl, rfl⟩)
        go_roundw
        case rel => exact ⟨k + 1, by omega, by go_num, by simp⟩
        case measure => (simp [intOf] <;> omega)
      · clear hp
        go_wp2_with (first
          | (go_at_call 27; (with_reducible refine (Hpg.out _).mono ?_); rintro e w5 ⟨ao2, cap2, rfl, hb5, hI2⟩; have hB := hB.trans (hb5.mono hB.size); have hI := hI.below hb5)
          | (go_at_call 24; (with_reducible refine (rmake_at _ l E _ hl9 hI Hc HE).mono ?_); rintro e w6 ⟨rfl, hb6⟩; have hB := hB.trans (hb6.mono hB.size); have hI := hI.below hb6; have hI2 := hI2.below hb6)
          | (go_at_call 36; (with_reducible refine (same_at _ _ l _ hl9 hI2 hI).mono ?_); rintro e w7 ⟨rfl, hb7⟩; have hB := hB.trans (hb7.mono hB.size)))
        go_ret
        exact ⟨by simp, hB⟩
set_option maxRecDepth 100000 in
set_option maxHeartbeats 1600000 in
theorem lawMakes_long (l : List Int) (b off cap : Nat) (w : World) (hl : 100 < l.length) (hcap : l.length ≤ cap) (_hcm : cap ≤ maxLen) (hI : Ints w (.slice (some ⟨b, off, none⟩) 100 cap) (l.take 100)) (_hpos : 0 < l.length) :
    Calls Try.prog 11 #[.slice (some ⟨b, off, none⟩) l.length cap] w (LawPost w) := by
  unfold maxLen at _hcm
  have hlen : Hid ((l.take 100).length = 100) := Lib.hid (by rw [List.length_take]; omega)
  have hlt : b < w.heap.size := by
    rcases hI.cells with h | h
    · exact h
    · have h2 := hlen.out; rw [h] at h2; simp at h2
  have hl9 : (l.take 100).length ≤ 1000000000 := by have := hlen.out; omega
  have hB : Below w.heap.size w w := Below.refl _ _
  have hmin : min (l.length : Int) 100 = (100 : Int) := by omega
  generalize hL : (l.take 100) = L at hI hlen hl9
  clear hL
  obtain ⟨c, hc⟩ : ∃ c, okI L = c := ⟨_, rfl⟩
  have Hc := Lib.hid hc
  cases c
  · have hmk := Lib.hid (show makeP L = ([], 2) by unfold makeP; rw [hc]; rfl)
    clear hc
    go_enter Try.func11, Try.ntmps11
    go_wp2_with (first
      | (go_at_call 35; (with_reducible refine (make_at _ L _ 2 _ hl9 hI hmk).mono ?_); rintro e w4 ⟨rfl, hb4⟩; have hB := hB.trans (hb4.mono hB.size); have hI := hI.below hb4)
      | (go_at_call 14; (with_reducible refine (known_any _).mono ?_); rintro e w1 ⟨rfl, hb1⟩; have hB := hB.trans (hb1.mono hB.size); have hI := hI.below hb1))
    go_loopw [5] (fun i wr => ∃ k : Nat, k ≤ 100 ∧ i = .int .i64 k ∧ okI (L.take k) = true ∧ wr = w1) (fun i _ => 100 - (intOf i).toNat)
    case atStart => exact ⟨0, Nat.zero_le _, rfl, rfl, rfl⟩
    case round =>
      obtain ⟨k, hk, rfl, hok, rfl⟩ := hrel
      by_cases hlk : k < 100
      · have hcell := hI.cellAt k (by have := hlen.out; omega)
        have hos := okI_snoc L k (by have := hlen.out; omega)
        generalize L.getD k 0 = z at hcell hos
        obtain ⟨q, hq⟩ : ∃ q, isPtI z = q := ⟨_, rfl⟩
        have Hq := Lib.hid hq
        rw [hok, hq] at hos
        have Hos := Lib.hid hos
        clear hok hq hos
        cases q
        · go_wp2_with (go_at_call 19; (with_reducible refine (refIsPoint_at _ _ Hq _).mono ?_); rintro e w' ⟨rfl, rfl⟩)
          go_ret
          exact ⟨rfl, hB⟩
        · go_wp2_with (go_at_call 19; (with_reducible refine (refIsPoint_at _ _ Hq _).mono ?_); rintro e w' ⟨rfl, rfl⟩)
          go_roundw
          case rel => exact ⟨k + 1, by omega, by go_num, Hos.out, by simp⟩
          case measure => (simp [intOf] <;> omega)
      · exfalso
        rw [List.take_of_length_le (by have := hlen.out; omega), Hc.out] at hok
        exact absurd hok (by simp)
  · have hmk := Lib.hid (show makeP L = (encI L, 0) by unfold makeP; rw [hc]; rfl)
    obtain ⟨hpm, hbe⟩ := pts_make L hc
    clear hc
    have hel : Hid ((encI L).length ≤ 4000000000) := by have := encI_len L L.length; rw [List.take_of_length_le (Nat.le_refl _)] at this; exact Lib.hid (by omega)
    obtain ⟨E, hE⟩ : ∃ E, encI L = E := ⟨_, rfl⟩
    rw [hE] at hmk hpm hbe hel
    have HE := Lib.hid hE
    have hsz : (⟨E.toArray⟩ : ByteArray).size ≤ 4294967296 := by have := hel.out; simp [ByteArray.size]; omega
    have hdl : (⟨E.toArray⟩ : ByteArray).data.toList = E := by simp
    have hpg := points_good ⟨E.toArray⟩ hsz (by rw [hdl]; exact hbe)
    rw [hdl, hpm] at hpg
    have Hpg := Lib.hid hpg
    clear hpg hdl hE hpm hbe
    have hp : ∀ k, k < L.length → Hid (isPtI (L.getD k 0) = true) := fun k hk => by
      cases h : isPtI (L.getD k 0)
      · have := okI_no L k hk h; rw [Hc.out] at this; exact absurd this (by simp)
      · exact Lib.hid rfl
    go_enter Try.func11, Try.ntmps11
    go_wp2_with (first
      | (go_at_call 35; (with_reducible refine (make_at _ L _ 0 _ hl9 hI hmk).mono ?_); rintro e w4 ⟨rfl, hb4⟩; have hB := hB.trans (hb4.mono hB.size); have hI := hI.below hb4)
      | (go_at_call 14; (with_reducible refine (known_any _).mono ?_); rintro e w1 ⟨rfl, hb1⟩; have hB := hB.trans (hb1.mono hB.size); have hI := hI.below hb1))
    go_loopw [5] (fun i wr => ∃ k : Nat, k ≤ 100 ∧ i = .int .i64 k ∧ wr = w1) (fun i _ => 100 - (intOf i).toNat)
    case atStart => exact ⟨0, Nat.zero_le _, rfl, rfl⟩
    case round =>
      obtain ⟨k, hk, rfl, rfl⟩ := hrel
      by_cases hlk : k < 100
      · have hcell := hI.cellAt k (by have := hlen.out; omega)
        have Hq := hp k (by have := hlen.out; omega)
        generalize L.getD k 0 = z at hcell Hq
        clear hp
        go_wp2_with (go_at_call 19; (with_reducible refine (refIsPoint_at _ _ Hq _).mono ?_); rintro e w' ⟨rfl, rfl⟩)
        go_roundw
        case rel => exact ⟨k + 1, by omega, by go_num, by simp⟩
        case measure => (simp [intOf] <;> omega)
      · clear hp
        go_wp2_with (first
          | (go_at_call 27; (with_reducible refine (Hpg.out _).mono ?_); rintro e w5 ⟨ao2, cap2, rfl, hb5, hI2⟩; have hB := hB.trans (hb5.mono hB.size); have hI := hI.below hb5)
          | (go_at_call 24; (with_reducible refine (rmake_at _ L E _ hl9 hI Hc HE).mono ?_); rintro e w6 ⟨rfl, hb6⟩; have hB := hB.trans (hb6.mono hB.size); have hI := hI.below hb6; have hI2 := hI2.below hb6)
          | (go_at_call 36; (with_reducible refine (same_at _ _ L _ hl9 hI2 hI).mono ?_); rintro e w7 ⟨rfl, hb7⟩; have hB := hB.trans (hb7.mono hB.size)))
        go_ret
        exact ⟨by simp, hB⟩
set_option maxRecDepth 100000 in
set_option maxHeartbeats 800000 in
theorem lawMakes_nil (ao : Option Addr) (cap : Nat) (hcm : cap ≤ maxLen) (w : World) : Calls Try.prog 11 #[.slice ao 0 cap] w (LawPost w) := by
  have hI : ∀ w' : World, Ints w' (.slice ao 0 cap) [] := fun _ => ⟨ao, cap, rfl, Nat.zero_le _, hcm, fun h => absurd h (by simp)⟩
  have hmk := Lib.hid (show makeP [] = ([], 0) from rfl)
  have hen := Lib.hid (show encI [] = [] from rfl)
  have hok := Lib.hid (show okI [] = true from rfl)
  have hpg := points_good ⟨#[]⟩ (by decide) (by show (U.bad ([] : List UInt8)).isEmpty = true; rfl)
  have Hpg := Lib.hid (show ∀ w : World, Calls Try.prog 27 #[.string ⟨#[]⟩] w fun e w' => ∃ (ao : Option Addr) (cap : Nat), e = .returned (.tuple #[.slice ao 0 cap, .int .i64 0]) ∧ Below w.heap.size w w' ∧ Ints w' (.slice ao 0 cap) [] from hpg)
  clear hpg
  have hB : Below w.heap.size w w := Below.refl _ _
  have HI := Lib.hid hI
  have hmin : min (0 : Int) 100 = 0 := by decide
  have l0 : ([] : List Int).length ≤ 1000000000 := by simp
  clear hI
  go_enter Try.func11, Try.ntmps11
  go_wp2_with (first
    | (go_at_call 35; (with_reducible refine (make_at _ [] _ 0 _ l0 (HI.out _) hmk).mono ?_); rintro e w4 ⟨rfl, hb4⟩; have hB := hB.trans (hb4.mono hB.size))
    | (go_at_call 14; (with_reducible refine (known_any _).mono ?_); rintro e w1 ⟨rfl, hb1⟩; have hB := hB.trans (hb1.mono hB.size)))
  refine wp_loop_rounds 1 ?_
  rw [rounds_succ]
  go_wp2_with (first
    | (go_at_call 27; (with_reducible refine (Hpg.out _).mono ?_); rintro e w5 ⟨ao2, cap2, rfl, hb5, hI2⟩; have hB := hB.trans (hb5.mono hB.size))
    | (go_at_call 24; (with_reducible refine (rmake_at _ [] [] _ l0 (HI.out _) hok hen).mono ?_); rintro e w6 ⟨rfl, hb6⟩; have hB := hB.trans (hb6.mono hB.size); have hI2 := hI2.below hb6)
    | (go_at_call 36; (with_reducible refine (same_at _ _ [] _ l0 hI2 (HI.out _)).mono ?_); rintro e w7 ⟨rfl, hb7⟩; have hB := hB.trans (hb7.mono hB.size)))
  go_ret
  exact ⟨rfl, hB⟩
theorem lawMakes (v : Value) (l : List Int) (w : World) (hv : Ints w v l) : Calls Try.prog 11 #[v] w (LawPost w) := by
  rcases hv.open with ⟨rfl, ao, cap, rfl⟩ | ⟨hpos, b, off, cap, rfl, h1, h2, _, _⟩
  · obtain ⟨ao', cap', e1, _, e3, _⟩ := hv
    simp only [Value.slice.injEq] at e1
    obtain ⟨rfl, _, rfl⟩ := e1
    exact lawMakes_nil ao cap e3 w
  · by_cases hs : l.length ≤ 100
    · exact lawMakes_short l b off cap w hs h1 h2 hv hpos
    · have ht := hv.take 100 _ _ rfl
      rw [show min 100 l.length = 100 by omega] at ht
      exact lawMakes_long l b off cap w (by omega) h1 h2 ht hpos
end Go.Proofs.Ytkoklnnlhfjbjaa
