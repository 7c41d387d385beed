/- The law Nil: walked. -/
import Derived.Test.YtbpokgjahlnfhaaPlc
namespace Go.Proofs.Ytbpokgjahlnfhaa
open Go.RowKit Go.Shelf

theorem wrong_nil (a b : Int) (w : World) : Calls Try.prog 37 #[.pointer none, .int .i64 a, .int .i64 b] w fun e w' => e = .returned (.int .i64 1) ∧ w = w' := by
  go_enter Try.func37, Try.ntmps37
  go_wp2
  go_ret
  exact ⟨rfl, rfl⟩
theorem chunks_nil (a b : Int) (w : World) : Calls Try.prog 29 #[.pointer none, .int .i64 a, .int .i64 b] w fun e w' => e = .returned (.tuple #[.slice none 0 0, .int .i64 1]) ∧ w = w' := by
  go_enter Try.func29, Try.ntmps29
  go_wp2_with (go_at_call 37; refine (wrong_nil a b _).mono ?_; rintro e w' ⟨rfl, rfl⟩)
  go_ret2
  exact ⟨rfl, rfl⟩
theorem slice_nil (a b : Int) (w : World) : Calls Try.prog 28 #[.pointer none, .int .i64 a, .int .i64 b] w fun e w' => e = .returned (.tuple #[.string ⟨#[]⟩, .int .i64 1]) ∧ w = w' := by
  go_enter Try.func28, Try.ntmps28
  go_wp2_with (first
    | (go_at_call 29; refine (chunks_nil a b _).mono ?_; rintro e w' ⟨rfl, rfl⟩)
    | (go_at_call 42; refine (Try.strings_Join_none none 0 ⟨#[]⟩ _).mono ?_; rintro e w' ⟨rfl, rfl⟩))
  go_ret2
  exact ⟨rfl, rfl⟩
theorem replace_nil (a b : Int) (s : ByteArray) (w : World) : Calls Try.prog 18 #[.pointer none, .int .i64 a, .int .i64 b, .string s] w fun e w' => e = .returned (.int .i64 1) ∧ w = w' := by
  go_enter Try.func18, Try.ntmps18
  go_wp2_with (go_at_call 37; refine (wrong_nil a b _).mono ?_; rintro e w' ⟨rfl, rfl⟩)
  go_ret
  exact ⟨rfl, rfl⟩
theorem insert_nil (a : Int) (s : ByteArray) (w : World) : Calls Try.prog 17 #[.pointer none, .int .i64 a, .string s] w fun e w' => e = .returned (.int .i64 1) ∧ w = w' := by
  go_enter Try.func17, Try.ntmps17
  go_wp2_with (go_at_call 18; refine (replace_nil a a s _).mono ?_; rintro e w' ⟨rfl, rfl⟩)
  go_ret
  exact ⟨rfl, rfl⟩
theorem delete_nil (a b : Int) (w : World) : Calls Try.prog 34 #[.pointer none, .int .i64 a, .int .i64 b] w fun e w' => e = .returned (.int .i64 1) ∧ w = w' := by
  go_enter Try.func34, Try.ntmps34
  go_wp2_with (go_at_call 18; refine (replace_nil a b ⟨#[]⟩ _).mono ?_; rintro e w' ⟨rfl, rfl⟩)
  go_ret
  exact ⟨rfl, rfl⟩
theorem lineAt_nil (a : Int) (w : World) : Calls Try.prog 33 #[.pointer none, .int .i64 a] w fun e w' => e = .returned (.tuple #[.int .i64 0, .int .i64 1]) ∧ w = w' := by
  go_enter Try.func33, Try.ntmps33
  go_wp2_with (go_at_call 37; refine (wrong_nil a a _).mono ?_; rintro e w' ⟨rfl, rfl⟩)
  go_ret2
  exact ⟨rfl, rfl⟩
theorem line_nil (a : Int) (w : World) : Calls Try.prog 32 #[.pointer none, .int .i64 a] w fun e w' => e = .returned (.tuple #[.int .i64 0, .int .i64 0, .int .i64 1]) ∧ w = w' := by
  go_enter Try.func32, Try.ntmps32
  go_wp2
  trace_state
  exact bodyPost_ret (v := .tuple #[.int .i64 0, .int .i64 0, .int .i64 1]) (by simp [results, Try.f32, go_sem]) rfl ⟨rfl, rfl⟩
theorem len_nil (w : World) : Calls Try.prog 15 #[.pointer none] w fun e w' => e = .returned (.int .i64 0) ∧ w = w' := by
  go_enter Try.func15, Try.ntmps15
  go_wp2
  go_ret
  exact ⟨rfl, rfl⟩
theorem pieces_nil (w : World) : Calls Try.prog 22 #[.pointer none] w fun e w' => e = .returned (.int .i64 0) ∧ w = w' := by
  go_enter Try.func22, Try.ntmps22
  go_wp2
  go_ret
  exact ⟨rfl, rfl⟩
theorem depth_nil (w : World) : Calls Try.prog 23 #[.pointer none] w fun e w' => e = .returned (.int .i64 0) ∧ w = w' := by
  go_enter Try.func23, Try.ntmps23
  go_wp2
  go_ret
  exact ⟨rfl, rfl⟩
theorem lines_nil (w : World) : Calls Try.prog 31 #[.pointer none] w fun e w' => e = .returned (.int .i64 0) ∧ w = w' := by
  go_enter Try.func31, Try.ntmps31
  go_wp2
  go_ret
  exact ⟨rfl, rfl⟩
theorem string_nil (w : World) : Calls Try.prog 21 #[.pointer none] w fun e w' => e = .returned (.string ⟨#[]⟩) ∧ w = w' := by
  go_enter Try.func21, Try.ntmps21
  go_wp2
  go_ret
  exact ⟨rfl, rfl⟩
theorem snap_nil (w : World) : Calls Try.prog 25 #[.pointer none] w fun e w' => e = .returned (.pointer none) ∧ w = w' := by
  go_enter Try.func25, Try.ntmps25
  go_wp2
  go_ret
  exact ⟨rfl, rfl⟩
theorem equal_nil_nil (w : World) : Calls Try.prog 26 #[.pointer none, .pointer none] w fun e w' => e = .returned (.bool true) ∧ w = w' := by
  go_enter Try.func26, Try.ntmps26
  go_wp2
  go_ret
  exact ⟨rfl, rfl⟩
theorem tree_eql (a : Addr) (w : World) : (binOp .eql 24 (.pointer none) (.pointer (some a))).run Try.prog w = .ok (.bool false) w := by
  have hp : Try.prog.underlying 24 = some (.pointer 69) := Try.underlying24
  have h : ∀ d : Nat, (Op.equalIn (d + 1) 24 (.pointer none) (.pointer (some a))).run Try.prog w = .ok false w := fun d => by
    simp [Op.equalIn, run_underlying hp]
  simp only [binOp]
  simp [Op.equal, Op.maxDepth, h 9999]
theorem equal_nil_some (b : Nat) (w : World) : Calls Try.prog 26 #[.pointer none, .pointer (some ⟨b, 0, none⟩)] w fun e w' => e = .returned (.bool false) ∧ w = w' := by
  have hE := tree_eql ⟨b, 0, none⟩
  go_enter Try.func26, Try.ntmps26
  go_wp2
  go_ret
  exact ⟨rfl, rfl⟩
set_option maxHeartbeats 2000000 in
theorem nil_row {n : Int} {s : ByteArray} {w : World} (_ : -9223372036854775808 ≤ n ∧ n ≤ 9223372036854775807) (_ : s.size ≤ maxLen) :
    Calls Try.prog 12 #[.int .i64 n, .string s] w (LawPost w) := by
  go_enter Try.func12, Try.ntmps12
  go_wp2_with (first
    | (go_at_call 28; refine (slice_nil n n _).mono ?_; rintro e w' ⟨rfl, rfl⟩)
    | (go_at_call 29; refine (chunks_nil n n _).mono ?_; rintro e w' ⟨rfl, rfl⟩)
    | (go_at_call 32; refine (line_nil n _).mono ?_; rintro e w' ⟨rfl, rfl⟩)
    | (go_at_call 33; refine (lineAt_nil n _).mono ?_; rintro e w' ⟨rfl, rfl⟩)
    | (go_at_call 17; refine (insert_nil n s _).mono ?_; rintro e w' ⟨rfl, rfl⟩)
    | (go_at_call 34; refine (delete_nil n n _).mono ?_; rintro e w' ⟨rfl, rfl⟩)
    | (go_at_call 18; refine (replace_nil n n s _).mono ?_; rintro e w' ⟨rfl, rfl⟩)
    | (go_at_call 15; refine (len_nil _).mono ?_; rintro e w' ⟨rfl, rfl⟩)
    | (go_at_call 22; refine (pieces_nil _).mono ?_; rintro e w' ⟨rfl, rfl⟩)
    | (go_at_call 23; refine (depth_nil _).mono ?_; rintro e w' ⟨rfl, rfl⟩)
    | (go_at_call 31; refine (lines_nil _).mono ?_; rintro e w' ⟨rfl, rfl⟩)
    | (go_at_call 21; refine (string_nil _).mono ?_; rintro e w' ⟨rfl, rfl⟩)
    | (go_at_call 25; refine (snap_nil _).mono ?_; rintro e w' ⟨rfl, rfl⟩)
    | (go_at_call_of 26 (Value.pointer (some ⟨ob, 0, none⟩)); refine (equal_nil_some ob _).mono ?_; rintro e w' ⟨rfl, rfl⟩)
    | (go_at_call 26; refine (equal_nil_nil _).mono ?_; rintro e w' ⟨rfl, rfl⟩)
    | (go_at_call 14; refine (tnew_ok ⟨#[]⟩ _ (by decide)).mono ?_; rintro e w1 ⟨ob, rfl, hob, hO, hb1⟩)
    | (go_at_call 13; refine (known_any _).mono ?_; rintro e w2 ⟨rfl, hb2⟩))
  trace_state
  go_ret
  exact ⟨rfl, hb1.trans (hb2.mono hb1.size)⟩
end Go.Proofs.Ytbpokgjahlnfhaa
