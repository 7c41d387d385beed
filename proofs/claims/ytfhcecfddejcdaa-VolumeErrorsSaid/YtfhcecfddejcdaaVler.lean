/- The law VolumeErrors walked. -/
import Derived.Test.YtfhcecfddejcdaaVlsu
namespace Go.Proofs.Ytfhcecfddejcdaa
open Go.RowKit Go.Maps

theorem new_at (n i : Nat) : (VS.new n).at_ i = zb := by
  unfold VS.at_ VS.new
  rw [List.getD_eq_getElem?_getD]
  cases e : (List.replicate n zb)[i]? with
  | none => rfl
  | some d => exact (List.mem_replicate.1 (List.mem_of_getElem? e)).2
theorem new_content (n i : Nat) : (VS.new n).content i = zb := by
  unfold VS.content
  rw [new_at]
  rfl

set_option maxRecDepth 100000 in
set_option maxHeartbeats 2000000 in
theorem errors_loA (n s : Int) (d : ByteArray) (hd : d.size ≤ 9223372036854775807) (h3 : 300 < d.size) (hn : n < 1) (w : World) : Calls Try.prog 5 #[.int .i64 n, .int .i64 s, .string d] w (LawPost w) := by
  have e1 : (300 : Int) ≤ (d.size : Int) := by omega
  have e2 : min (d.size : Int) 300 = 300 := by omega
  have d1 : decide (n < 1) = true := by simpa using hn
  have hno : ¬ (1 ≤ n ∧ n ≤ 65536) := by omega
  go_enter Try.func5, Try.ntmps5
  go_wp2_with fail
  refine (known_any _).mono ?_
  rintro e w1 ⟨rfl, hb1⟩
  go_wp2_with fail
  refine (new_no n _ hno).mono ?_
  rintro e w2 ⟨rfl, rfl⟩
  go_wp2
  go_ret
  exact ⟨rfl, hb1⟩
set_option maxRecDepth 100000 in
set_option maxHeartbeats 2000000 in
theorem errors_hiA (n s : Int) (d : ByteArray) (hd : d.size ≤ 9223372036854775807) (h3 : 300 < d.size) (hn : 65536 < n) (w : World) : Calls Try.prog 5 #[.int .i64 n, .int .i64 s, .string d] w (LawPost w) := by
  have e1 : (300 : Int) ≤ (d.size : Int) := by omega
  have e2 : min (d.size : Int) 300 = 300 := by omega
  have d1 : decide (n < 1) = false := by simp; omega
  have d2 : decide (65536 < n) = true := by simpa using hn
  have hno : ¬ (1 ≤ n ∧ n ≤ 65536) := by omega
  go_enter Try.func5, Try.ntmps5
  go_wp2_with fail
  refine (known_any _).mono ?_
  rintro e w1 ⟨rfl, hb1⟩
  go_wp2_with fail
  refine (new_no n _ hno).mono ?_
  rintro e w2 ⟨rfl, rfl⟩
  go_wp2
  go_ret
  exact ⟨rfl, hb1⟩
set_option maxRecDepth 100000 in
set_option maxHeartbeats 2000000 in
theorem errors_loB (n s : Int) (d : ByteArray) (hd : d.size ≤ 9223372036854775807) (h3 : d.size ≤ 300) (hn : n < 1) (w : World) : Calls Try.prog 5 #[.int .i64 n, .int .i64 s, .string d] w (LawPost w) := by
  have e1 : (d.size : Int) ≤ 300 := by omega
  have e2 : min (d.size : Int) 300 = (d.size : Int) := by omega
  have d1 : decide (n < 1) = true := by simpa using hn
  have hno : ¬ (1 ≤ n ∧ n ≤ 65536) := by omega
  go_enter Try.func5, Try.ntmps5
  go_wp2_with fail
  refine (known_any _).mono ?_
  rintro e w1 ⟨rfl, hb1⟩
  go_wp2_with fail
  refine (new_no n _ hno).mono ?_
  rintro e w2 ⟨rfl, rfl⟩
  go_wp2
  go_ret
  exact ⟨rfl, hb1⟩
set_option maxRecDepth 100000 in
set_option maxHeartbeats 2000000 in
theorem errors_hiB (n s : Int) (d : ByteArray) (hd : d.size ≤ 9223372036854775807) (h3 : d.size ≤ 300) (hn : 65536 < n) (w : World) : Calls Try.prog 5 #[.int .i64 n, .int .i64 s, .string d] w (LawPost w) := by
  have e1 : (d.size : Int) ≤ 300 := by omega
  have e2 : min (d.size : Int) 300 = (d.size : Int) := by omega
  have d1 : decide (n < 1) = false := by simp; omega
  have d2 : decide (65536 < n) = true := by simpa using hn
  have hno : ¬ (1 ≤ n ∧ n ≤ 65536) := by omega
  go_enter Try.func5, Try.ntmps5
  go_wp2_with fail
  refine (known_any _).mono ?_
  rintro e w1 ⟨rfl, hb1⟩
  go_wp2_with fail
  refine (new_no n _ hno).mono ?_
  rintro e w2 ⟨rfl, rfl⟩
  go_wp2
  go_ret
  exact ⟨rfl, hb1⟩
set_option maxRecDepth 100000 in
set_option maxHeartbeats 2000000 in
theorem errors_negA (n : Nat) (hn1 : 1 ≤ n) (hn2 : n ≤ 65536) (s : Int) (d : ByteArray) (hd : d.size ≤ 9223372036854775807) (h3 : 300 < d.size) (hs : s < 0) (w : World) : Calls Try.prog 5 #[.int .i64 (n : Int), .int .i64 s, .string d] w (LawPost w) := by
  have e1 : (300 : Int) ≤ (d.size : Int) := by omega
  have e2 : min (d.size : Int) 300 = 300 := by omega
  have d1 : decide ((n : Int) < 1) = false := by simp; omega
  have d2 : decide (65536 < (n : Int)) = false := by simp; omega
  have hin : inR s (VS.new n).dur.length = false := by unfold inR VS.new; simp; omega
  have HW := Lib.hid (show (VS.new n).write s (d.extract 0 300) = (2, VS.new n) from by unfold VS.write; rw [if_neg (by simp [VS.new]), if_pos hin])
  have HR := Lib.hid (show (VS.new n).read s = (⟨#[]⟩, 2) from by unfold VS.read; rw [if_neg (by simp [VS.new]), if_pos hin])
  have HD := Lib.hid (show (VS.new n).durable s = (⟨#[]⟩, 2) from by unfold VS.durable; rw [if_pos hin])
  clear hin
  have e5 : decide (s < 0) = true := by simpa using hs
  have HL := Lib.hid (show ((VS.new n).dur.length : Int) = (n : Int) from by simp [VS.new])
  go_enter Try.func5, Try.ntmps5
  go_wp2_with fail
  refine (known_any _).mono ?_
  rintro e w1 ⟨rfl, hb1⟩
  go_wp2_with fail
  refine (new_own n _ hn1 hn2).mono ?_
  rintro e w2 ⟨vb, F, rfl, h2⟩
  go_wp2_with fail
  obtain ⟨mb, pv, hv2, hF2⟩ := h2.1
  refine (len_any hv2).mono ?_
  rw [HL.out]
  rintro e w3 ⟨rfl, rfl⟩
  clear hv2 hF2
  go_wp2_with fail
  refine (write_any s _ h2.1).mono ?_
  rw [HW.out]
  rintro e w4 ⟨rfl, hs4⟩
  obtain ⟨F4, h4⟩ := h2.step hs4
  go_wp2_with fail
  refine (read_any s h4.1).mono ?_
  rw [HR.out]
  rintro e w5 ⟨rfl, hb5⟩
  have h5 := h4.below hb5
  clear h2 h4 hs4 hb5
  go_wp2_with fail
  obtain ⟨mb, pv, hv5, hF5⟩ := h5.1
  refine (durable_any s hv5).mono ?_
  rw [HD.out]
  rintro e w6 ⟨rfl, hb6⟩
  have h6 := h5.below hb6
  clear hv5 hF5 h5 hb6
  go_wp2
  go_ret
  exact ⟨rfl, hb1.trans (h6.2.1.mono hb1.size)⟩
set_option maxRecDepth 100000 in
set_option maxHeartbeats 2000000 in
theorem errors_overA (n : Nat) (hn1 : 1 ≤ n) (hn2 : n ≤ 65536) (s : Int) (d : ByteArray) (hd : d.size ≤ 9223372036854775807) (h3 : 300 < d.size) (hs : (n : Int) ≤ s) (w : World) : Calls Try.prog 5 #[.int .i64 (n : Int), .int .i64 s, .string d] w (LawPost w) := by
  have e1 : (300 : Int) ≤ (d.size : Int) := by omega
  have e2 : min (d.size : Int) 300 = 300 := by omega
  have d1 : decide ((n : Int) < 1) = false := by simp; omega
  have d2 : decide (65536 < (n : Int)) = false := by simp; omega
  have hin : inR s (VS.new n).dur.length = false := by unfold inR VS.new; simp; omega
  have HW := Lib.hid (show (VS.new n).write s (d.extract 0 300) = (2, VS.new n) from by unfold VS.write; rw [if_neg (by simp [VS.new]), if_pos hin])
  have HR := Lib.hid (show (VS.new n).read s = (⟨#[]⟩, 2) from by unfold VS.read; rw [if_neg (by simp [VS.new]), if_pos hin])
  have HD := Lib.hid (show (VS.new n).durable s = (⟨#[]⟩, 2) from by unfold VS.durable; rw [if_pos hin])
  clear hin
  have e5 : decide (s < 0) = false := by simp; omega
  have e6 : decide ((n : Int) ≤ s) = true := by simpa using hs
  have HL := Lib.hid (show ((VS.new n).dur.length : Int) = (n : Int) from by simp [VS.new])
  go_enter Try.func5, Try.ntmps5
  go_wp2_with fail
  refine (known_any _).mono ?_
  rintro e w1 ⟨rfl, hb1⟩
  go_wp2_with fail
  refine (new_own n _ hn1 hn2).mono ?_
  rintro e w2 ⟨vb, F, rfl, h2⟩
  go_wp2_with fail
  obtain ⟨mb, pv, hv2, hF2⟩ := h2.1
  refine (len_any hv2).mono ?_
  rw [HL.out]
  rintro e w3 ⟨rfl, rfl⟩
  clear hv2 hF2
  go_wp2_with fail
  refine (write_any s _ h2.1).mono ?_
  rw [HW.out]
  rintro e w4 ⟨rfl, hs4⟩
  obtain ⟨F4, h4⟩ := h2.step hs4
  go_wp2_with fail
  refine (read_any s h4.1).mono ?_
  rw [HR.out]
  rintro e w5 ⟨rfl, hb5⟩
  have h5 := h4.below hb5
  clear h2 h4 hs4 hb5
  go_wp2_with fail
  obtain ⟨mb, pv, hv5, hF5⟩ := h5.1
  refine (durable_any s hv5).mono ?_
  rw [HD.out]
  rintro e w6 ⟨rfl, hb6⟩
  have h6 := h5.below hb6
  clear hv5 hF5 h5 hb6
  go_wp2
  go_ret
  exact ⟨rfl, hb1.trans (h6.2.1.mono hb1.size)⟩
set_option maxRecDepth 100000 in
set_option maxHeartbeats 2000000 in
theorem errors_negB (n : Nat) (hn1 : 1 ≤ n) (hn2 : n ≤ 65536) (s : Int) (d : ByteArray) (hd : d.size ≤ 9223372036854775807) (h3 : d.size ≤ 300) (hs : s < 0) (w : World) : Calls Try.prog 5 #[.int .i64 (n : Int), .int .i64 s, .string d] w (LawPost w) := by
  have e1 : (d.size : Int) ≤ 300 := by omega
  have e2 : min (d.size : Int) 300 = (d.size : Int) := by omega
  have d1 : decide ((n : Int) < 1) = false := by simp; omega
  have d2 : decide (65536 < (n : Int)) = false := by simp; omega
  have hin : inR s (VS.new n).dur.length = false := by unfold inR VS.new; simp; omega
  have HW := Lib.hid (show (VS.new n).write s d = (2, VS.new n) from by unfold VS.write; rw [if_neg (by simp [VS.new]), if_pos hin])
  have HR := Lib.hid (show (VS.new n).read s = (⟨#[]⟩, 2) from by unfold VS.read; rw [if_neg (by simp [VS.new]), if_pos hin])
  have HD := Lib.hid (show (VS.new n).durable s = (⟨#[]⟩, 2) from by unfold VS.durable; rw [if_pos hin])
  clear hin
  have e5 : decide (s < 0) = true := by simpa using hs
  have HL := Lib.hid (show ((VS.new n).dur.length : Int) = (n : Int) from by simp [VS.new])
  go_enter Try.func5, Try.ntmps5
  go_wp2_with fail
  refine (known_any _).mono ?_
  rintro e w1 ⟨rfl, hb1⟩
  go_wp2_with fail
  refine (new_own n _ hn1 hn2).mono ?_
  rintro e w2 ⟨vb, F, rfl, h2⟩
  go_wp2_with fail
  obtain ⟨mb, pv, hv2, hF2⟩ := h2.1
  refine (len_any hv2).mono ?_
  rw [HL.out]
  rintro e w3 ⟨rfl, rfl⟩
  clear hv2 hF2
  go_wp2_with fail
  refine (write_any s _ h2.1).mono ?_
  rw [HW.out]
  rintro e w4 ⟨rfl, hs4⟩
  obtain ⟨F4, h4⟩ := h2.step hs4
  go_wp2_with fail
  refine (read_any s h4.1).mono ?_
  rw [HR.out]
  rintro e w5 ⟨rfl, hb5⟩
  have h5 := h4.below hb5
  clear h2 h4 hs4 hb5
  go_wp2_with fail
  obtain ⟨mb, pv, hv5, hF5⟩ := h5.1
  refine (durable_any s hv5).mono ?_
  rw [HD.out]
  rintro e w6 ⟨rfl, hb6⟩
  have h6 := h5.below hb6
  clear hv5 hF5 h5 hb6
  go_wp2
  go_ret
  exact ⟨rfl, hb1.trans (h6.2.1.mono hb1.size)⟩
set_option maxRecDepth 100000 in
set_option maxHeartbeats 2000000 in
theorem errors_overB (n : Nat) (hn1 : 1 ≤ n) (hn2 : n ≤ 65536) (s : Int) (d : ByteArray) (hd : d.size ≤ 9223372036854775807) (h3 : d.size ≤ 300) (hs : (n : Int) ≤ s) (w : World) : Calls Try.prog 5 #[.int .i64 (n : Int), .int .i64 s, .string d] w (LawPost w) := by
  have e1 : (d.size : Int) ≤ 300 := by omega
  have e2 : min (d.size : Int) 300 = (d.size : Int) := by omega
  have d1 : decide ((n : Int) < 1) = false := by simp; omega
  have d2 : decide (65536 < (n : Int)) = false := by simp; omega
  have hin : inR s (VS.new n).dur.length = false := by unfold inR VS.new; simp; omega
  have HW := Lib.hid (show (VS.new n).write s d = (2, VS.new n) from by unfold VS.write; rw [if_neg (by simp [VS.new]), if_pos hin])
  have HR := Lib.hid (show (VS.new n).read s = (⟨#[]⟩, 2) from by unfold VS.read; rw [if_neg (by simp [VS.new]), if_pos hin])
  have HD := Lib.hid (show (VS.new n).durable s = (⟨#[]⟩, 2) from by unfold VS.durable; rw [if_pos hin])
  clear hin
  have e5 : decide (s < 0) = false := by simp; omega
  have e6 : decide ((n : Int) ≤ s) = true := by simpa using hs
  have HL := Lib.hid (show ((VS.new n).dur.length : Int) = (n : Int) from by simp [VS.new])
  go_enter Try.func5, Try.ntmps5
  go_wp2_with fail
  refine (known_any _).mono ?_
  rintro e w1 ⟨rfl, hb1⟩
  go_wp2_with fail
  refine (new_own n _ hn1 hn2).mono ?_
  rintro e w2 ⟨vb, F, rfl, h2⟩
  go_wp2_with fail
  obtain ⟨mb, pv, hv2, hF2⟩ := h2.1
  refine (len_any hv2).mono ?_
  rw [HL.out]
  rintro e w3 ⟨rfl, rfl⟩
  clear hv2 hF2
  go_wp2_with fail
  refine (write_any s _ h2.1).mono ?_
  rw [HW.out]
  rintro e w4 ⟨rfl, hs4⟩
  obtain ⟨F4, h4⟩ := h2.step hs4
  go_wp2_with fail
  refine (read_any s h4.1).mono ?_
  rw [HR.out]
  rintro e w5 ⟨rfl, hb5⟩
  have h5 := h4.below hb5
  clear h2 h4 hs4 hb5
  go_wp2_with fail
  obtain ⟨mb, pv, hv5, hF5⟩ := h5.1
  refine (durable_any s hv5).mono ?_
  rw [HD.out]
  rintro e w6 ⟨rfl, hb6⟩
  have h6 := h5.below hb6
  clear hv5 hF5 h5 hb6
  go_wp2
  go_ret
  exact ⟨rfl, hb1.trans (h6.2.1.mono hb1.size)⟩
set_option maxRecDepth 100000 in
set_option maxHeartbeats 2000000 in
theorem errors_longA (n : Nat) (hn1 : 1 ≤ n) (hn2 : n ≤ 65536) (s : Int) (d : ByteArray) (hd : d.size ≤ 9223372036854775807) (h3 : 300 < d.size) (hs : 0 ≤ s) (hs2 : s < (n : Int)) (w : World) : Calls Try.prog 5 #[.int .i64 (n : Int), .int .i64 s, .string d] w (LawPost w) := by
  have e1 : (300 : Int) ≤ (d.size : Int) := by omega
  have e2 : min (d.size : Int) 300 = 300 := by omega
  have d1 : decide ((n : Int) < 1) = false := by simp; omega
  have d2 : decide (65536 < (n : Int)) = false := by simp; omega
  have e5 : decide (s < 0) = false := by simp; omega
  have e6 : decide ((n : Int) ≤ s) = false := by simp; omega
  have hin : inR s (VS.new n).dur.length = true := by unfold inR VS.new; simp; omega
  have hne : (d.extract 0 300).size ≠ 256 := by simp; omega
  have e7 : (((d.extract 0 300).size : Int) != 256) = true := by rw [bne_iff_ne]; omega
  have e8 : ((d.extract 0 300).size != 256) = true := by rw [bne_iff_ne]; exact hne
  have HW := Lib.hid (show (VS.new n).write s (d.extract 0 300) = (10, VS.new n) from by unfold VS.write; rw [if_neg (by simp [VS.new]), if_neg (by rw [hin]; simp), if_pos hne])
  have HR := Lib.hid (show (VS.new n).read s = (zb, 0) from by unfold VS.read; rw [if_neg (by simp [VS.new]), if_neg (by rw [hin]; simp)]; rw [new_content])
  have HD := Lib.hid (show (VS.new n).durable s = (zb, 0) from by unfold VS.durable; rw [if_neg (by rw [hin]; simp)]; rw [new_at])
  clear hin hne
  have HL := Lib.hid (show ((VS.new n).dur.length : Int) = (n : Int) from by simp [VS.new])
  go_enter Try.func5, Try.ntmps5
  go_wp2_with fail
  refine (known_any _).mono ?_
  rintro e w1 ⟨rfl, hb1⟩
  go_wp2_with fail
  refine (new_own n _ hn1 hn2).mono ?_
  rintro e w2 ⟨vb, F, rfl, h2⟩
  go_wp2_with fail
  obtain ⟨mb, pv, hv2, hF2⟩ := h2.1
  refine (len_any hv2).mono ?_
  rw [HL.out]
  rintro e w3 ⟨rfl, rfl⟩
  clear hv2 hF2
  go_wp2_with fail
  refine (write_any s _ h2.1).mono ?_
  rw [HW.out]
  rintro e w4 ⟨rfl, hs4⟩
  obtain ⟨F4, h4⟩ := h2.step hs4
  go_wp2_with fail
  refine (read_any s h4.1).mono ?_
  rw [HR.out]
  rintro e w5 ⟨rfl, hb5⟩
  have h5 := h4.below hb5
  clear h2 h4 hs4 hb5
  go_wp2_with fail
  obtain ⟨mb, pv, hv5, hF5⟩ := h5.1
  refine (durable_any s hv5).mono ?_
  rw [HD.out]
  rintro e w6 ⟨rfl, hb6⟩
  have h6 := h5.below hb6
  clear hv5 hF5 h5 hb6
  go_wp2_with fail
  refine (lzero_any _).mono ?_
  rintro e w7 ⟨rfl, hb7⟩
  have h7 := h6.below hb7
  go_wp2_with fail
  refine (lzero_any _).mono ?_
  rintro e w8 ⟨rfl, hb8⟩
  have h8 := h7.below hb8
  go_wp2
  go_ret
  exact ⟨rfl, hb1.trans (h8.2.1.mono hb1.size)⟩
set_option maxRecDepth 100000 in
set_option maxHeartbeats 2000000 in
theorem errors_longB (n : Nat) (hn1 : 1 ≤ n) (hn2 : n ≤ 65536) (s : Int) (d : ByteArray) (hd : d.size ≤ 9223372036854775807) (h3 : d.size ≤ 300) (hs : 0 ≤ s) (hs2 : s < (n : Int)) (h2 : d.size ≠ 256) (w : World) : Calls Try.prog 5 #[.int .i64 (n : Int), .int .i64 s, .string d] w (LawPost w) := by
  have e1 : (d.size : Int) ≤ 300 := by omega
  have e2 : min (d.size : Int) 300 = (d.size : Int) := by omega
  have d1 : decide ((n : Int) < 1) = false := by simp; omega
  have d2 : decide (65536 < (n : Int)) = false := by simp; omega
  have e5 : decide (s < 0) = false := by simp; omega
  have e6 : decide ((n : Int) ≤ s) = false := by simp; omega
  have hin : inR s (VS.new n).dur.length = true := by unfold inR VS.new; simp; omega
  have hne : d.size ≠ 256 := h2
  have e7 : ((d.size : Int) != 256) = true := by rw [bne_iff_ne]; omega
  have e8 : (d.size != 256) = true := by rw [bne_iff_ne]; exact hne
  have HW := Lib.hid (show (VS.new n).write s d = (10, VS.new n) from by unfold VS.write; rw [if_neg (by simp [VS.new]), if_neg (by rw [hin]; simp), if_pos hne])
  have HR := Lib.hid (show (VS.new n).read s = (zb, 0) from by unfold VS.read; rw [if_neg (by simp [VS.new]), if_neg (by rw [hin]; simp)]; rw [new_content])
  have HD := Lib.hid (show (VS.new n).durable s = (zb, 0) from by unfold VS.durable; rw [if_neg (by rw [hin]; simp)]; rw [new_at])
  clear hin hne
  have HL := Lib.hid (show ((VS.new n).dur.length : Int) = (n : Int) from by simp [VS.new])
  go_enter Try.func5, Try.ntmps5
  go_wp2_with fail
  refine (known_any _).mono ?_
  rintro e w1 ⟨rfl, hb1⟩
  go_wp2_with fail
  refine (new_own n _ hn1 hn2).mono ?_
  rintro e w2 ⟨vb, F, rfl, h2⟩
  go_wp2_with fail
  obtain ⟨mb, pv, hv2, hF2⟩ := h2.1
  refine (len_any hv2).mono ?_
  rw [HL.out]
  rintro e w3 ⟨rfl, rfl⟩
  clear hv2 hF2
  go_wp2_with fail
  refine (write_any s _ h2.1).mono ?_
  rw [HW.out]
  rintro e w4 ⟨rfl, hs4⟩
  obtain ⟨F4, h4⟩ := h2.step hs4
  go_wp2_with fail
  refine (read_any s h4.1).mono ?_
  rw [HR.out]
  rintro e w5 ⟨rfl, hb5⟩
  have h5 := h4.below hb5
  clear h2 h4 hs4 hb5
  go_wp2_with fail
  obtain ⟨mb, pv, hv5, hF5⟩ := h5.1
  refine (durable_any s hv5).mono ?_
  rw [HD.out]
  rintro e w6 ⟨rfl, hb6⟩
  have h6 := h5.below hb6
  clear hv5 hF5 h5 hb6
  go_wp2_with fail
  refine (lzero_any _).mono ?_
  rintro e w7 ⟨rfl, hb7⟩
  have h7 := h6.below hb7
  go_wp2_with fail
  refine (lzero_any _).mono ?_
  rintro e w8 ⟨rfl, hb8⟩
  have h8 := h7.below hb8
  go_wp2
  go_ret
  exact ⟨rfl, hb1.trans (h8.2.1.mono hb1.size)⟩
set_option maxRecDepth 100000 in
set_option maxHeartbeats 2000000 in
theorem errors_ok (n : Nat) (hn1 : 1 ≤ n) (hn2 : n ≤ 65536) (s : Int) (d : ByteArray) (hs : 0 ≤ s) (hs2 : s < (n : Int)) (h2 : d.size = 256) (w : World) : Calls Try.prog 5 #[.int .i64 (n : Int), .int .i64 s, .string d] w (LawPost w) := by
  have e1 : (d.size : Int) ≤ 300 := by omega
  have e2 : min (d.size : Int) 300 = (d.size : Int) := by omega
  have d1 : decide ((n : Int) < 1) = false := by simp; omega
  have d2 : decide (65536 < (n : Int)) = false := by simp; omega
  have e5 : decide (s < 0) = false := by simp; omega
  have e6 : decide ((n : Int) ≤ s) = false := by simp; omega
  have hin : inR s (VS.new n).dur.length = true := by unfold inR VS.new; simp; omega
  have hsz : d.size = 256 := h2
  have e7 : ((d.size : Int) != 256) = false := by rw [hsz]; rfl
  have e8 : (d.size != 256) = false := by rw [hsz]; rfl
  have HW := Lib.hid (show (VS.new n).write s d = (0, ⟨List.replicate n zb, [(s.toNat, d)], none, false⟩) from by unfold VS.write; rw [if_neg (by simp [VS.new]), if_neg (by rw [hin]; simp), if_neg (by omega), if_neg (by simp [VS.new])]; rfl)
  have HR := Lib.hid (show (⟨List.replicate n zb, [(s.toNat, d)], none, false⟩ : VS).read s = (d, 0) from by unfold VS.read; rw [if_neg (by simp), if_neg (by rw [show (⟨List.replicate n zb, [(s.toNat, d)], none, false⟩ : VS).dur.length = (VS.new n).dur.length from rfl, hin]; simp)]; simp [VS.content, lastAt])
  have HD := Lib.hid (show (⟨List.replicate n zb, [(s.toNat, d)], none, false⟩ : VS).durable s = (zb, 0) from by unfold VS.durable; rw [if_neg (by rw [show (⟨List.replicate n zb, [(s.toNat, d)], none, false⟩ : VS).dur.length = (VS.new n).dur.length from rfl, hin]; simp)]; exact congrArg (·, 0) (new_at n _))
  clear hin hsz h2
  have HL := Lib.hid (show ((VS.new n).dur.length : Int) = (n : Int) from by simp [VS.new])
  go_enter Try.func5, Try.ntmps5
  go_wp2_with fail
  refine (known_any _).mono ?_
  rintro e w1 ⟨rfl, hb1⟩
  go_wp2_with fail
  refine (new_own n _ hn1 hn2).mono ?_
  rintro e w2 ⟨vb, F, rfl, h2⟩
  go_wp2_with fail
  obtain ⟨mb, pv, hv2, hF2⟩ := h2.1
  refine (len_any hv2).mono ?_
  rw [HL.out]
  rintro e w3 ⟨rfl, rfl⟩
  clear hv2 hF2
  go_wp2_with fail
  refine (write_any s _ h2.1).mono ?_
  rw [HW.out]
  rintro e w4 ⟨rfl, hs4⟩
  obtain ⟨F4, h4⟩ := h2.step hs4
  go_wp2_with fail
  refine (read_any s h4.1).mono ?_
  rw [HR.out]
  rintro e w5 ⟨rfl, hb5⟩
  have h5 := h4.below hb5
  clear h2 h4 hs4 hb5
  go_wp2_with fail
  obtain ⟨mb, pv, hv5, hF5⟩ := h5.1
  refine (durable_any s hv5).mono ?_
  rw [HD.out]
  rintro e w6 ⟨rfl, hb6⟩
  have h6 := h5.below hb6
  clear hv5 hF5 h5 hb6
  go_wp2_with fail
  refine (lzero_any _).mono ?_
  rintro e w7 ⟨rfl, hb7⟩
  have h7 := h6.below hb7
  go_wp2
  go_ret
  exact ⟨rfl, hb1.trans (h7.2.1.mono hb1.size)⟩
theorem errors_law (n s : Int) (d : ByteArray) (hd : d.size ≤ 9223372036854775807) (w : World) : Calls Try.prog 5 #[.int .i64 n, .int .i64 s, .string d] w (LawPost w) := by
  rcases Nat.lt_or_ge 300 d.size with h3 | h3
  · by_cases h1 : n < 1
    · exact errors_loA n s d hd h3 h1 w
    · by_cases h2 : 65536 < n
      · exact errors_hiA n s d hd h3 h2 w
      · obtain ⟨m, rfl⟩ := Int.eq_ofNat_of_zero_le (show 0 ≤ n by omega)
        by_cases h4 : s < 0
        · exact errors_negA m (by omega) (by omega) s d hd h3 h4 w
        · by_cases h5 : (m : Int) ≤ s
          · exact errors_overA m (by omega) (by omega) s d hd h3 h5 w
          · exact errors_longA m (by omega) (by omega) s d hd h3 (by omega) (by omega) w
  · by_cases h1 : n < 1
    · exact errors_loB n s d hd h3 h1 w
    · by_cases h2 : 65536 < n
      · exact errors_hiB n s d hd h3 h2 w
      · obtain ⟨m, rfl⟩ := Int.eq_ofNat_of_zero_le (show 0 ≤ n by omega)
        by_cases h4 : s < 0
        · exact errors_negB m (by omega) (by omega) s d hd h3 h4 w
        · by_cases h5 : (m : Int) ≤ s
          · exact errors_overB m (by omega) (by omega) s d hd h3 h5 w
          · by_cases h6 : d.size = 256
            · exact errors_ok m (by omega) (by omega) s d (by omega) (by omega) h6 w
            · exact errors_longB m (by omega) (by omega) s d hd h3 (by omega) (by omega) h6 w
theorem errors_row (n s : Int) (d : ByteArray) (hd : d.size ≤ maxLen) (w : World) : Calls Try.prog 5 #[.int .i64 n, .int .i64 s, .string d] w (LawPost w) :=
  errors_law n s d (by unfold maxLen at hd; omega) w
end Go.Proofs.Ytfhcecfddejcdaa
