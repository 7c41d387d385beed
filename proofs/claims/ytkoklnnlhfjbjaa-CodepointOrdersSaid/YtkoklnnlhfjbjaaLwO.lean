/- The walk of the law CodepointOrders. -/
import Derived.Test.YtkoklnnlhfjbjaaLwB
import Derived.Test.YtkoklnnlhfjbjaaLwR
import Derived.Deep.QuietTactic
import Derived.BigQuiet
namespace Go.Proofs.Ytkoklnnlhfjbjaa
open Go.RowKit
theorem Ints.addr {w : World} {l : List Int} {ao : Option Addr} {n cap : Nat} (h : Ints w (.slice ao n cap) l) (hp : 0 < l.length) : ∃ b off, ao = some ⟨b, off, none⟩ ∧ b < w.heap.size ∧ n = l.length := by
  obtain ⟨ao', cap', h1, h2, h3, h4⟩ := h
  simp only [Value.slice.injEq] at h1
  obtain ⟨rfl, rfl, rfl⟩ := h1
  obtain ⟨b, off, e, hlt, _⟩ := h4 hp
  exact ⟨b, off, e, hlt, rfl⟩
theorem take_step (la lb : List Int) (k : Nat) (h1 : k < la.length) (h2 : k < lb.length) (hp : la.take k = lb.take k) (he : la.getD k 0 = lb.getD k 0) : la.take (k + 1) = lb.take (k + 1) := by
  have e1 : la.getD k 0 = la[k] := by simp [List.getD, List.getElem?_eq_getElem h1]
  have e2 : lb.getD k 0 = lb[k] := by simp [List.getD, List.getElem?_eq_getElem h2]
  rw [List.take_succ_eq_append_getElem h1, List.take_succ_eq_append_getElem h2, hp, ← e1, ← e2, he]
def Orders (l m : List Int) (b : Bool) : Prop :=
  (∀ k, k < l.length → k < m.length → l.take k = m.take k → l.getD k 0 ≠ m.getD k 0 → b = decide (l.getD k 0 < m.getD k 0)) ∧
    ∀ k, l.take k = m.take k → k ≤ l.length → k ≤ m.length → (l.length ≤ k ∨ m.length ≤ k) → b = decide ((l.length : Int) < m.length)
set_option maxRecDepth 100000 in
set_option maxHeartbeats 800000 in
theorem lawOrders (s : ByteArray) (hs : s.size ≤ 9223372036854775807) (t : ByteArray) (ht : t.size ≤ 9223372036854775807) (w : World) : Calls Try.prog 7 #[.string s, .string t] w (LawPost w) := by
  have hc1 := size_cutS s
  have hc2 := size_cutS t
  have hcut1 := Lib.hid (cut_any s hs)
  have hcut2 := Lib.hid (cut_any t ht)
  clear hs ht
  generalize cutS s = u at hc1 hcut1
  generalize cutS t = v at hc2 hcut2
  have hu : u.size ≤ 4294967296 := by omega
  have hv : v.size ≤ 4294967296 := by omega
  have hB : Below w.heap.size w w := Below.refl _ _
  obtain ⟨c1, hb1⟩ : ∃ c, (U.bad u.data.toList).isEmpty = c := ⟨_, rfl⟩
  obtain ⟨c2, hb2⟩ : ∃ c, (U.bad v.data.toList).isEmpty = c := ⟨_, rfl⟩
  have Hb1 := Lib.hid hb1
  have Hb2 := Lib.hid hb2
  cases c1
  · have hp1 := Lib.hid (points_bad u hu Hb1)
    cases c2
    · have hp2 := Lib.hid (points_bad v hv Hb2)
      clear hb1 hb2
      go_enter Try.func7, Try.ntmps7
      go_wp2_with (first
        | (go_at_call 12; (with_reducible refine (hcut1.out _).mono ?_); rintro e w' ⟨rfl, rfl⟩)
        | (go_at_call 12; (with_reducible refine (hcut2.out _).mono ?_); rintro e w' ⟨rfl, rfl⟩)
        | (go_at_call 27; (with_reducible refine (hp1.out _).mono ?_); rintro e w2 ⟨rfl, hb2⟩; have hB := hB.trans (hb2.mono hB.size))
        | (go_at_call 27; (with_reducible refine (hp2.out _).mono ?_); rintro e w2 ⟨rfl, hb2⟩; have hB := hB.trans (hb2.mono hB.size))
        | (go_at_call 14; (with_reducible refine (known_any _).mono ?_); rintro e w1 ⟨rfl, hb1⟩; have hB := hB.trans (hb1.mono hB.size)))
      go_ret
      exact ⟨rfl, hB⟩
    · have hp2 := Lib.hid (points_good v hv Hb2)
      clear hb1 hb2
      go_enter Try.func7, Try.ntmps7
      go_wp2_with (first
        | (go_at_call 12; (with_reducible refine (hcut1.out _).mono ?_); rintro e w' ⟨rfl, rfl⟩)
        | (go_at_call 12; (with_reducible refine (hcut2.out _).mono ?_); rintro e w' ⟨rfl, rfl⟩)
        | (go_at_call 27; (with_reducible refine (hp1.out _).mono ?_); rintro e w2 ⟨rfl, hb2⟩; have hB := hB.trans (hb2.mono hB.size))
        | (go_at_call 27; (with_reducible refine (hp2.out _).mono ?_); rintro e w2 ⟨ao, cap, rfl, hb2, hI⟩; have hB := hB.trans (hb2.mono hB.size))
        | (go_at_call 14; (with_reducible refine (known_any _).mono ?_); rintro e w1 ⟨rfl, hb1⟩; have hB := hB.trans (hb1.mono hB.size)))
      go_ret
      exact ⟨rfl, hB⟩
  · have hp1 := Lib.hid (points_good u hu Hb1)
    cases c2
    · have hp2 := Lib.hid (points_bad v hv Hb2)
      clear hb1 hb2
      go_enter Try.func7, Try.ntmps7
      go_wp2_with (first
        | (go_at_call 12; (with_reducible refine (hcut1.out _).mono ?_); rintro e w' ⟨rfl, rfl⟩)
        | (go_at_call 12; (with_reducible refine (hcut2.out _).mono ?_); rintro e w' ⟨rfl, rfl⟩)
        | (go_at_call 27; (with_reducible refine (hp1.out _).mono ?_); rintro e w2 ⟨ao, cap, rfl, hb2, hI⟩; have hB := hB.trans (hb2.mono hB.size))
        | (go_at_call 27; (with_reducible refine (hp2.out _).mono ?_); rintro e w2 ⟨rfl, hb2⟩; have hB := hB.trans (hb2.mono hB.size))
        | (go_at_call 14; (with_reducible refine (known_any _).mono ?_); rintro e w1 ⟨rfl, hb1⟩; have hB := hB.trans (hb1.mono hB.size)))
      go_ret
      exact ⟨rfl, hB⟩
    · have hp2 := Lib.hid (points_good v hv Hb2)
      have hord : Orders (ptsI u.data.toList) (ptsI v.data.toList) (Op.bytesLess u.toList v.toList) := by
        rw [Lib.toList_data, Lib.toList_data]
        exact ⟨fun k h1 h2 h3 h4 => order_diff _ _ hb1 hb2 k h1 h2 h3 h4, fun k h1 h2 h3 h4 => order_end _ _ hb1 hb2 k h1 h2 h3 h4⟩
      have Hord := Lib.hid hord
      have hl1 := ptsI_le u
      have hl2 := ptsI_le v
      clear hb1 hb2 hord
      generalize ptsI u.data.toList = L at hp1 Hord hl1
      generalize ptsI v.data.toList = M at hp2 Hord hl2
      go_enter Try.func7, Try.ntmps7
      go_wp2_with (first
        | (go_at_call 12; (with_reducible refine (hcut1.out _).mono ?_); rintro e w' ⟨rfl, rfl⟩)
        | (go_at_call 12; (with_reducible refine (hcut2.out _).mono ?_); rintro e w' ⟨rfl, rfl⟩)
        | (go_at_call 27; (with_reducible refine (hp1.out _).mono ?_); rintro e w2 ⟨ao, cap, rfl, hb2, hI⟩; have hB := hB.trans (hb2.mono hB.size))
        | (go_at_call 27; (with_reducible refine (hp2.out _).mono ?_); rintro e w3 ⟨ao2, cap2, rfl, hb3, hJ⟩; have hB := hB.trans (hb3.mono hB.size); have hI := hI.below hb3)
        | (go_at_call 14; (with_reducible refine (known_any _).mono ?_); rintro e w1 ⟨rfl, hb1⟩; have hB := hB.trans (hb1.mono hB.size); have hI := hI.below hb1; have hJ := hJ.below hb1))
      go_loopw [9] (fun i wr => ∃ k : Nat, k ≤ L.length ∧ k ≤ M.length ∧ i = .int .i64 k ∧ L.take k = M.take k ∧ Below w.heap.size w wr ∧ Ints wr (.slice ao L.length cap) L ∧ Ints wr (.slice ao2 M.length cap2) M) (fun i _ => L.length - (intOf i).toNat)
      case atStart => exact ⟨0, Nat.zero_le _, Nat.zero_le _, rfl, rfl, hB, hI, hJ⟩
      case round =>
        clear hI hB hJ
        obtain ⟨k, hk, hk2, rfl, hp, hB, hI, hJ⟩ := hrel
        have Hp := Lib.hid hp
        clear hp
        by_cases h1 : k < L.length
        · by_cases h2 : k < M.length
          · obtain ⟨b1, o1, rfl, hlt1, _⟩ := hI.addr (by omega)
            obtain ⟨b2, o2, rfl, hlt2, _⟩ := hJ.addr (by omega)
            have hcell := hI.cellAt k h1
            have hcell2 := hJ.cellAt k h2
            have hst := Lib.hid (take_step L M k h1 h2 Hp.out)
            have hdf := Lib.hid (Hord.out.1 k h1 h2 Hp.out)
            have HI := Lib.hid hI
            have HJ := Lib.hid hJ
            obtain ⟨n, hn⟩ : ∃ n, n = L.length := ⟨_, rfl⟩
            generalize L.getD k 0 = x at hcell hst hdf
            generalize M.getD k 0 = y at hcell2 hst hdf
            clear hI hJ
            obtain ⟨c, hcq⟩ : ∃ c, (x != y) = c := ⟨_, rfl⟩
            cases c
            · have hxy : x = y := by simpa using hcq
              have hst2 := Lib.hid (hst.out hxy)
              clear hst hxy hdf
              go_wp2
              go_quiet (fail)
              go_wp2
              go_roundw
              case rel => exact ⟨k + 1, by omega, by omega, by go_num, hst2.out, below_drewN hB _, HI.out.below (below_drewN (Below.refl _ _) _), HJ.out.below (below_drewN (Below.refl _ _) _)⟩
              case measure => (simp [intOf] <;> omega)
            · have hdf2 := Lib.hid (hdf.out (by simpa using hcq))
              clear hst hdf
              go_wp2
              go_quiet (fail)
              go_wp2
              go_quiet (fail)
              go_wp2
              go_ret
              exact ⟨by rw [hdf2.out]; simp, below_drewN (below_drewN hB _) _⟩
          · have he := Lib.hid (Hord.out.2 k Hp.out hk hk2 (Or.inr (by omega)))
            go_wp2
            go_ret
            exact ⟨by rw [he.out]; simp, hB⟩
        · have he := Lib.hid (Hord.out.2 k Hp.out hk hk2 (Or.inl (by omega)))
          go_wp2
          go_ret
          exact ⟨by rw [he.out]; simp, hB⟩
end Go.Proofs.Ytkoklnnlhfjbjaa
