/- The law Nil. -/
import Derived.Test.YtdcdlmigagjbiaaDoorHkn
namespace Go.Proofs.YtdcdlmigagjbiaaDoor
open Go.RowKit Go.Maps
set_option maxRecDepth 100000 in
set_option maxHeartbeats 1000000 in
theorem nil_law (t : List UInt8) (most : Int) (w : World) : Calls Tryd.prog 3 #[.string ⟨t.toArray⟩, .int .i64 most] w (KnPost w) := by
  by_cases hl : 200 < t.length
  · go_enter Tryd.func3, Tryd.ntmps3
    go_wp2_with (first
      | (go_at_call 12; have HB0 := HB1; refine (known_any _).mono ?_; unfold KnPost; rintro e w2 ⟨rfl, hb2⟩; have HB2 := Lib.hid hb2; clear hb2)
      | (go_at_call 12; refine (known_any _).mono ?_; unfold KnPost; rintro e w1 ⟨rfl, hb1⟩; have HB1 := Lib.hid hb1; clear hb1))
    refine bodyPost_ret (v := .bool true) (by simp [results, Tryd.f3, go_sem]) rfl ⟨rfl, HB1.out.trans (HB2.out.mono HB1.out.size)⟩
  · have ht : t.length ≤ 100000000 := by omega
    go_enter Tryd.func3, Tryd.ntmps3
    go_wp2_with (first
      | (go_at_call 12; refine (known_any _).mono ?_; unfold KnPost; rintro e w1 ⟨rfl, hb1⟩; have HB1 := Lib.hid hb1; clear hb1)
      | (go_at_call 13; refine (last_nil t most _).mono ?_; unfold LastPost; rintro e w2 ⟨rfl, hb2⟩; have HB2 := Lib.hid hb2; clear hb2)
      | (go_at_call 14; refine (levels_nil t _).mono ?_; unfold NilPost; rintro e w3 ⟨rfl, hb3⟩; have HB3 := Lib.hid hb3; clear hb3)
      | (go_at_call 15; refine (points_nil t _).mono ?_; unfold NilPost; rintro e w4 ⟨rfl, hb4⟩; have HB4 := Lib.hid hb4; clear hb4)
      | (go_at_call 16; refine (parts_nil t _).mono ?_; unfold NilPost; rintro e w5 ⟨rfl, hb5⟩; have HB5 := Lib.hid hb5; clear hb5)
      | (go_at_call 17; refine (isex_nil t _).mono ?_; unfold IsPost; rintro e w6 ⟨rfl, hb6⟩; have HB6 := Lib.hid hb6; clear hb6))
    refine bodyPost_ret (v := .bool true) (by simp [results, Tryd.f3, go_sem]) rfl ⟨rfl, HB1.out.trans ((HB2.out.trans ((HB3.out.trans ((HB4.out.trans ((HB5.out.trans (HB6.out.mono HB5.out.size)).mono HB4.out.size)).mono HB3.out.size)).mono HB2.out.size)).mono HB1.out.size)⟩
theorem i64bd {n : Int} (h : (Lit.int .i64 n).wf = true) : -9223372036854775808 ≤ n ∧ n ≤ 9223372036854775807 := by
  simp [Lit.wf, IntKind.min, IntKind.max, IntKind.signed, IntKind.bits] at h
  omega
theorem str_back (a : ByteArray) : (⟨a.data.toList.toArray⟩ : ByteArray) = a := by cases a; simp
theorem nil_row (a : ByteArray) (_ : a.size ≤ maxLen) (m : Int) (_ : -9223372036854775808 ≤ m ∧ m ≤ 9223372036854775807) {w : World} : Calls Tryd.prog 3 #[.string a, .int .i64 m] w (KnPost w) := by
  have := nil_law a.data.toList m w
  rw [str_back] at this
  exact this
end Go.Proofs.YtdcdlmigagjbiaaDoor
