/- The law VolumeNil walked. -/
import Derived.Test.YtfhcecfddejcdaaVdev
namespace Go.Proofs.Ytfhcecfddejcdaa
open Go.RowKit Go.Maps
theorem nil_down (w : World) : Calls Try.prog 24 #[.pointer none] w fun e w' => e = .returned (.bool false) ∧ w = w' := by
  go_enter Try.func24, Try.ntmps24
  go_wp2
  first | go_ret | go_ret2 | go_end0
  exact ⟨rfl, rfl⟩
theorem nil_limit (n : Int) (w : World) : Calls Try.prog 28 #[.pointer none, .int .i64 n] w fun e w' => e = .returned (.tuple #[]) ∧ w = w' := by
  go_enter Try.func28, Try.ntmps28
  go_wp2
  first | go_ret | go_ret2 | go_end0
  exact ⟨rfl, rfl⟩
theorem nil_crash (w : World) : Calls Try.prog 27 #[.pointer none] w fun e w' => e = .returned (.tuple #[]) ∧ w = w' := by
  go_enter Try.func27, Try.ntmps27
  go_wp2
  first | go_ret | go_ret2 | go_end0
  exact ⟨rfl, rfl⟩
theorem nil_start (ao : Option Addr) (n cap : Nat) (w : World) : Calls Try.prog 25 #[.pointer none, .slice ao n cap] w fun e w' => e = .returned (.tuple #[]) ∧ w = w' := by
  go_enter Try.func25, Try.ntmps25
  go_wp2_with (go_at_call 24; refine (nil_down _).mono ?_; rintro e w1 ⟨rfl, rfl⟩)
  refine bodyPost_ret (results_none rfl _ _ _) rfl ?_
  exact ⟨rfl, rfl⟩
theorem nil_read (n : Int) (w : World) : Calls Try.prog 20 #[.pointer none, .int .i64 n] w fun e w' => e = .returned (.tuple #[.string ⟨#[]⟩, .int .i64 1]) ∧ Below w.heap.size w w' := by
  have hbl : ∀ o1 o2 o3 : Obj, Below w.heap.size w (((w.alloc o1).alloc o2).alloc o3) := fun o1 o2 o3 => (((Below.refl _ w).alloc (Nat.le_refl _) _).alloc (by simp) _).alloc (by simp; omega) _
  have HB := Lib.hid hbl
  clear hbl
  go_enter Try.func20, Try.ntmps20
  go_wp2
  exact bodyPost_ret (v := .tuple #[.string ⟨#[]⟩, .int .i64 1]) (by simp [results, Try.f20, go_sem]) rfl ⟨rfl, HB.out _ _ _⟩
theorem nil_durable (n : Int) (w : World) : Calls Try.prog 21 #[.pointer none, .int .i64 n] w fun e w' => e = .returned (.tuple #[.string ⟨#[]⟩, .int .i64 1]) ∧ w = w' := by
  go_enter Try.func21, Try.ntmps21
  go_wp2
  first | go_ret | go_ret2 | go_end0
  exact ⟨rfl, rfl⟩
theorem nil_write (n : Int) (d : ByteArray) (w : World) : Calls Try.prog 16 #[.pointer none, .int .i64 n, .string d] w fun e w' => e = .returned (.int .i64 1) ∧ w = w' := by
  go_enter Try.func16, Try.ntmps16
  go_wp2
  first | go_ret | go_ret2 | go_end0
  exact ⟨rfl, rfl⟩
theorem nil_barrier (w : World) : Calls Try.prog 18 #[.pointer none] w fun e w' => e = .returned (.int .i64 1) ∧ w = w' := by
  go_enter Try.func18, Try.ntmps18
  go_wp2
  first | go_ret | go_ret2 | go_end0
  exact ⟨rfl, rfl⟩
theorem nil_len (w : World) : Calls Try.prog 19 #[.pointer none] w fun e w' => e = .returned (.int .i64 0) ∧ w = w' := by
  go_enter Try.func19, Try.ntmps19
  go_wp2
  first | go_ret | go_ret2 | go_end0
  exact ⟨rfl, rfl⟩
theorem nil_pending (w : World) : Calls Try.prog 17 #[.pointer none] w fun e w' => e = .returned (.slice none 0 0) ∧ w = w' := by
  go_enter Try.func17, Try.ntmps17
  go_wp2
  first | go_ret | go_ret2 | go_end0
  exact ⟨rfl, rfl⟩
theorem nil_clone (w : World) : Calls Try.prog 26 #[.pointer none] w fun e w' => e = .returned (.pointer none) ∧ w = w' := by
  go_enter Try.func26, Try.ntmps26
  go_wp2
  first | go_ret | go_ret2 | go_end0
  exact ⟨rfl, rfl⟩
theorem nil_equal (w : World) : Calls Try.prog 30 #[.pointer none, .pointer none] w fun e w' => e = .returned (.bool true) ∧ w = w' := by
  go_enter Try.func30, Try.ntmps30
  go_wp2
  first | go_ret | go_ret2 | go_end0
  exact ⟨rfl, rfl⟩
theorem nil_ptrIn (d : Nat) (b : Nat) (w : World) : (Op.equalIn (d + 1) 26 (.pointer none) (.pointer (some ⟨b, 0, none⟩))).run Try.prog w = .ok false w := by
  simp [Op.equalIn, run_underlying Try.underlying26]
theorem nil_ptrEq (b : Nat) (w : World) : (Op.equal 26 (.pointer none) (.pointer (some ⟨b, 0, none⟩))).run Try.prog w = .ok false w := nil_ptrIn 9999 b w
theorem nil_ptr (b : Nat) (w : World) : (binOp .eql 26 (.pointer none) (.pointer (some ⟨b, 0, none⟩))).run Try.prog w = .ok (.bool false) w := by
  simp only [binOp]
  simp [nil_ptrEq b w]
set_option maxRecDepth 100000 in
theorem nil_equal1 (b : Nat) (w : World) : Calls Try.prog 30 #[.pointer none, .pointer (some ⟨b, 0, none⟩)] w fun e w' => e = .returned (.bool false) ∧ w = w' := by
  have hnp := nil_ptr b
  go_enter Try.func30, Try.ntmps30
  go_wp2
  go_ret
  exact ⟨rfl, rfl⟩
set_option maxRecDepth 100000 in
theorem nil_equal2 (b : Nat) (w : World) : Calls Try.prog 30 #[.pointer (some ⟨b, 0, none⟩), .pointer none] w fun e w' => e = .returned (.bool false) ∧ w = w' := by
  go_enter Try.func30, Try.ntmps30
  go_wp2
  go_ret
  exact ⟨rfl, rfl⟩
set_option maxRecDepth 100000 in
set_option maxHeartbeats 2000000 in
theorem nil_law (s n : Int) (w : World) : Calls Try.prog 10 #[.int .i64 s, .int .i64 n] w (LawPost w) := by
  go_enter Try.func10, Try.ntmps10
  go_wp2_with fail
  refine (new_own 1 w (by omega) (by omega)).mono ?_
  rintro e w1 ⟨vb, F1, rfl, h1⟩
  have hb1 := h1.2.1
  clear h1
  go_wp2_with fail
  refine (nil_limit _ _).mono ?_
  rintro e w2 ⟨rfl, rfl⟩
  go_wp2_with fail
  refine (nil_crash _).mono ?_
  rintro e w2 ⟨rfl, rfl⟩
  go_wp2_with fail
  refine (nil_start _ _ _ _).mono ?_
  rintro e w2 ⟨rfl, rfl⟩
  have hb1 := hb1.alloc (by simpa using hb1.size) (.cells #[.int .u8 1] 5)
  obtain ⟨w2, hw2⟩ : ∃ w2, w1.alloc (.cells #[.int .u8 1] 5) = w2 := ⟨_, rfl⟩
  rw [hw2] at hb1 ⊢
  clear hw2
  go_wp2_with fail
  refine (nil_read _ _).mono ?_
  rintro e w3 ⟨rfl, hb⟩
  have hb1 := hb1.trans (hb.mono hb1.size)
  clear hb
  go_wp2_with fail
  refine (nil_durable _ _).mono ?_
  rintro e w4 ⟨rfl, rfl⟩
  go_wp2_with fail
  refine (known_any _).mono ?_
  rintro e w5 ⟨rfl, hb⟩
  have hb1 := hb1.trans (hb.mono hb1.size)
  clear hb
  go_wp2_with fail
  refine (lzero_any _).mono ?_
  rintro e w6 ⟨rfl, hb⟩
  have hb1 := hb1.trans (hb.mono hb1.size)
  clear hb
  go_wp2_with fail
  refine (nil_write _ _ _).mono ?_
  rintro e w7 ⟨rfl, rfl⟩
  go_wp2_with fail
  refine (nil_barrier _).mono ?_
  rintro e w8 ⟨rfl, rfl⟩
  go_wp2_with fail
  refine (nil_len _).mono ?_
  rintro e w9 ⟨rfl, rfl⟩
  go_wp2_with fail
  refine (nil_pending _).mono ?_
  rintro e w10 ⟨rfl, rfl⟩
  go_wp2_with fail
  refine (nil_down _).mono ?_
  rintro e w11 ⟨rfl, rfl⟩
  go_wp2_with fail
  refine (nil_clone _).mono ?_
  rintro e w12 ⟨rfl, rfl⟩
  go_wp2_with fail
  refine (nil_equal _).mono ?_
  rintro e w13 ⟨rfl, rfl⟩
  go_wp2_with fail
  refine (nil_equal1 _ _).mono ?_
  rintro e w14 ⟨rfl, rfl⟩
  go_wp2_with fail
  refine (nil_equal2 _ _).mono ?_
  rintro e w15 ⟨rfl, rfl⟩
  go_wp2
  go_ret
  exact ⟨rfl, hb1⟩
end Go.Proofs.Ytfhcecfddejcdaa
