/- The walks of First, Valid, At, IsPoint. -/
import Derived.Test.YtdcdlmigagjbiaaDoorWkB
import Derived.Outline
namespace Go.Proofs.YtdcdlmigagjbiaaDoor
open Go.RowKit
def firstP (l : List UInt8) : Int := if (U.bad l).isEmpty then -1 else (l.length : Int) - (U.bad l).length
theorem dec_size (s : ByteArray) (k p n : Nat) (h : U.dec (s.data.toList.drop k) = (p, n, true)) : 1 ≤ n ∧ n ≤ 4 ∧ k + n ≤ s.size ∧ n = U.esize p ∧ U.isPt p = true ∧ U.pts (s.data.toList.drop k) = p :: U.pts (s.data.toList.drop (k + n)) ∧ U.bad (s.data.toList.drop k) = U.bad (s.data.toList.drop (k + n)) := by
  obtain ⟨h1, h2, h3⟩ := U.dec_ok _ (by rw [h])
  obtain ⟨h4, h5⟩ := U.scan_ok _ (by rw [h])
  rw [h] at h1 h2 h3 h4 h5
  simp only at h1 h2 h3 h4 h5
  have hp := U.esize_pos p
  have hl := congrArg List.length h3
  rw [List.length_append, U.enc_length, ← h2, List.length_drop, List.length_drop, List.length_drop] at hl
  have : s.data.toList.length = s.size := by simp
  rw [List.drop_drop] at h4 h5
  exact ⟨by omega, by omega, by omega, h2, h1, h4, h5⟩
theorem dec_bad (s : ByteArray) (k p n : Nat) (h : U.dec (s.data.toList.drop k) = (p, n, false)) : U.pts (s.data.toList.drop k) = [] ∧ U.bad (s.data.toList.drop k) = s.data.toList.drop k :=
  U.scan_no _ (by rw [h])
theorem decode_at (s : ByteArray) (k p n : Nat) (b : Bool) (hs : s.size ≤ 4294967296) (hk : k < s.size) (h : Hid (U.dec (s.data.toList.drop k) = (p, n, b))) (w : World) :
    Calls Tryd.prog 51 #[.string s, .int .i64 k] w fun e w' => e = .returned (.tuple #[.int .i64 p, .int .i64 n, .bool b]) ∧ w = w' := by
  have := decode_any s k hs hk w
  rw [h.out] at this
  exact this
set_option maxRecDepth 100000 in
set_option maxHeartbeats 400000 in
theorem first_any (s : ByteArray) (hs : s.size ≤ 4294967296) (w : World) :
    Calls Tryd.prog 45 #[.string s] w fun e w' => e = .returned (.int .i64 (firstP s.data.toList)) ∧ w = w' := by
  go_enter Tryd.func45, Tryd.ntmps45
  go_wp2
  go_loop [3] (fun i => ∃ k : Nat, k ≤ s.size ∧ i = .int .i64 k ∧ U.bad (s.data.toList.drop k) = U.bad s.data.toList) (fun i => s.size - (intOf i).toNat)
  case atStart => exact ⟨0, Nat.zero_le _, rfl, rfl⟩
  case round =>
    obtain ⟨k, hk, rfl, hb⟩ := hrel
    have Hb := Lib.hid hb
    clear hb
    by_cases hlt : k < s.size
    · obtain ⟨p, n, b, hd⟩ : ∃ p n b, U.dec (s.data.toList.drop k) = (p, n, b) := ⟨_, _, _, rfl⟩
      have Hd := Lib.hid hd
      clear hd
      cases b
      · have hx := Lib.hid (dec_bad s k p n Hd.out).2
        go_wp2_with ((go_at_call 51; (with_reducible refine (decode_at s k _ _ _ hs hlt Hd _).mono ?_); rintro e w' ⟨rfl, rfl⟩))
        go_ret
        refine ⟨congrArg (fun x => Ending.returned (.int .i64 x)) ?_, rfl⟩
        unfold firstP
        rw [← Hb.out, hx.out, if_neg (by simpa using hlt), List.length_drop]
        simp; omega
      · obtain ⟨h1, h2, h3, h4, h5, h6, h7⟩ := dec_size s k p n Hd.out
        have h7 := Lib.hid h7
        clear h4 h5 h6
        go_wp2_with ((go_at_call 51; (with_reducible refine (decode_at s k _ _ _ hs hlt Hd _).mono ?_); rintro e w' ⟨rfl, rfl⟩))
        go_round
        case rel => exact ⟨k + n, by omega, by go_num, by rw [← h7.out]; exact Hb.out⟩
        case measure => simp [intOf]; omega
    · have hx := Lib.hid (drop_end s k (by omega))
      go_wp2
      go_ret
      refine ⟨congrArg (fun x => Ending.returned (.int .i64 x)) ?_, rfl⟩
      unfold firstP
      rw [← Hb.out, hx.out, U.scan_nil.2]; rfl
theorem firstP_neg (l : List UInt8) : decide (firstP l < 0) = (U.bad l).isEmpty := by
  unfold firstP
  have h := congrArg List.length (U.split_all l)
  rw [List.length_append] at h
  cases hb : (U.bad l).isEmpty
  · simp only [Bool.false_eq_true, if_false]; simp; omega
  · simp
set_option maxRecDepth 100000 in
set_option maxHeartbeats 400000 in
theorem valid_any (s : ByteArray) (hs : s.size ≤ 4294967296) (w : World) :
    Calls Tryd.prog 23 #[.string s] w fun e w' => e = .returned (.bool (U.bad s.data.toList).isEmpty) ∧ w = w' := by
  go_enter Tryd.func23, Tryd.ntmps23
  have hf := Lib.hid (firstP_neg s.data.toList)
  generalize hz : firstP s.data.toList = z at hf
  have Hz := Lib.hid hz
  clear hz
  go_wp2_with ((go_at_call 45; (with_reducible refine (first_any s hs _).mono ?_); rintro e w' ⟨rfl, rfl⟩; rw [Hz.out]))
  go_ret
  exact ⟨congrArg (fun x => Ending.returned (.bool x)) hf.out, rfl⟩
end Go.Proofs.YtdcdlmigagjbiaaDoor
