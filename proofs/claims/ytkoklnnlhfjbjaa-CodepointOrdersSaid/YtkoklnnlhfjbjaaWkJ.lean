/- The walk of Slice. -/
import Derived.Test.YtkoklnnlhfjbjaaWkI
import Derived.Deep.RegionWith
import Derived.BigRegion
namespace Go.Proofs.Ytkoklnnlhfjbjaa
open Go.RowKit
set_option maxRecDepth 100000 in
set_option maxHeartbeats 400000 in
theorem clone_any (s : ByteArray) (hs : s.size ≤ 281474976710656) (w : World) :
    Calls Try.prog 43 #[.string s] w fun e w' => e = .returned (.string s) ∧ Below w.heap.size w w' := by
  go_enter Try.func43, Try.ntmps43
  go_wp2_with ((go_at_call 49; (with_reducible refine (liteClone_any s _ hs).mono ?_); rintro e w' ⟨rfl, hb⟩))
  go_ret
  exact ⟨rfl, hb⟩
/-- what Slice returns -/
def sliceP (l : List UInt8) (a b : Int) : List UInt8 × Int :=
  if (U.bad l).isEmpty then (if a < 0 ∨ b < a ∨ ((begN l).length : Int) ≤ b then ([], 2) else ((l.drop ((begN l).getD a.toNat 0)).take ((begN l).getD b.toNat 0 - (begN l).getD a.toNat 0), 0)) else ([], 12)
theorem ret_slice {t : List UInt8 × Int} {a : List UInt8} {b : Int} (h : t = (a, b)) : Ending.returned (.tuple #[.string ⟨a.toArray⟩, .int .i64 b]) = .returned (.tuple #[.string ⟨t.1.toArray⟩, .int .i64 t.2]) := by rw [h]
theorem extract_ext (s : ByteArray) (a b : Nat) : s.extract a b = ⟨((s.data.toList.drop a).take (b - a)).toArray⟩ := by
  rw [← Lib.extract_data]
set_option maxRecDepth 100000 in
set_option maxHeartbeats 400000 in
theorem slice_any (s : ByteArray) (a b : Int) (hs : s.size ≤ 4294967296) (w : World) :
    Calls Try.prog 28 #[.string s, .int .i64 a, .int .i64 b] w fun e w' => e = .returned (.tuple #[.string ⟨(sliceP s.data.toList a b).1.toArray⟩, .int .i64 (sliceP s.data.toList a b).2]) ∧ Below w.heap.size w w' := by
  obtain ⟨c, hb⟩ : ∃ c, (U.bad s.data.toList).isEmpty = c := ⟨_, rfl⟩
  have Hb := Lib.hid hb
  clear hb
  cases c
  · have hx := Lib.hid (show sliceP s.data.toList a b = ([], 12) by unfold sliceP; rw [Hb.out]; rfl)
    go_enter Try.func28, Try.ntmps28
    go_wp2_with ((go_at_call 16; (with_reducible refine (valid_at s _ hs Hb _).mono ?_); rintro e w' ⟨rfl, rfl⟩))
    go_ret2
    exact ⟨ret_slice (a := []) hx.out, Below.refl _ _⟩
  · have hx := Lib.hid (show sliceP s.data.toList a b = if a < 0 ∨ b < a ∨ ((begN s.data.toList).length : Int) ≤ b then ([], 2) else ((s.data.toList.drop ((begN s.data.toList).getD a.toNat 0)).take ((begN s.data.toList).getD b.toNat 0 - (begN s.data.toList).getD a.toNat 0), 0) by unfold sliceP; rw [Hb.out]; rfl)
    have hlen := begN_len s
    have hba := Lib.hid (begins_at s hs w)
    have hbl := Lib.hid (fun i h => begN_le s.data.toList i h)
    have hmo := Lib.hid (fun i j h h' => begN_mono s.data.toList i j h h')
    have hsl := Lib.hid (show s.data.toList.length = s.size by simp)
    generalize begN s.data.toList = L at hx hlen hba hbl hmo
    by_cases hbad : a < 0 ∨ b < a ∨ (L.length : Int) ≤ b
    · have hx := Lib.hid (hx.out.trans (if_pos hbad))
      rcases (by omega : a < 0 ∨ (0 ≤ a ∧ b < a) ∨ (0 ≤ a ∧ a ≤ b ∧ (L.length : Int) ≤ b)) with h | ⟨h, h'⟩ | ⟨h, h', h''⟩
      all_goals
        clear hbad
        go_enter Try.func28, Try.ntmps28
        go_wp2_with (first
          | (go_at_call 16; (with_reducible refine (valid_at s _ hs Hb _).mono ?_); rintro e w' ⟨rfl, rfl⟩)
          | (go_at_call 42; (with_reducible refine hba.out.mono ?_); rintro e w1 ⟨bb, off, cap, rfl, hb1, hc1, hc2, hsz, hcells⟩; have Hcells := Lib.hid hcells; clear hcells))
        go_ret2
        exact ⟨ret_slice (a := []) hx.out, hb1⟩
    · have hx := Lib.hid (hx.out.trans (if_neg hbad))
      obtain ⟨i, rfl⟩ := Int.eq_ofNat_of_zero_le (show 0 ≤ a by omega)
      obtain ⟨j, rfl⟩ := Int.eq_ofNat_of_zero_le (show 0 ≤ b by omega)
      have hij : i ≤ j := by omega
      have hj : j < L.length := by omega
      have hm := hmo.out i j hij hj
      have hl := hbl.out j hj
      rw [hsl.out] at hl
      obtain ⟨x, hxk⟩ : ∃ x, L.getD i 0 = x := ⟨_, rfl⟩
      obtain ⟨y, hyk⟩ : ∃ y, L.getD j 0 = y := ⟨_, rfl⟩
      rw [hxk, hyk] at hm
      rw [hyk] at hl
      have Hxk := Lib.hid hxk
      have Hyk := Lib.hid hyk
      clear hxk hyk hbad
      go_enter Try.func28, Try.ntmps28
      go_wp2_with (first
        | (go_at_call 16; (with_reducible refine (valid_at s _ hs Hb _).mono ?_); rintro e w' ⟨rfl, rfl⟩)
        | (go_at_call 42; (with_reducible refine hba.out.mono ?_); rintro e w1 ⟨bb, off, cap, rfl, hb1, hc1, hc2, hsz, hcells⟩; have hcell := hcells i (by omega); have hcell2 := hcells j hj; rw [Hxk.out] at hcell; rw [Hyk.out] at hcell2; clear hcells))
      have hxs : (s.extract x y).size ≤ 281474976710656 := by simp; omega
      go_region_with ((go_at_call 43; (with_reducible refine (clone_any (s.extract x y) hxs _).mono ?_); rintro e w' ⟨rfl, hb2⟩))
      all_goals
        go_wp2
        go_ret2
        exact ⟨by rw [extract_ext]; exact ret_slice (by rw [hx.out, Int.toNat_natCast, Int.toNat_natCast, Hxk.out, Hyk.out]), (hb1.drew).trans (hb2.mono hsz)⟩
end Go.Proofs.Ytkoklnnlhfjbjaa
