/- The walks of tail and decode: the code point at a byte offset. -/
import Derived.Test.YtdcdlmigagjbiaaDoorWkA
import Derived.Test.YtdcdlmigagjbiaaDoorBits
import Derived.Lib.Hide
namespace Go.Proofs.YtdcdlmigagjbiaaDoor
open Go.RowKit
theorem ret_dec {l : List UInt8} {p n : Nat} {b : Bool} (h : U.dec l = (p, n, b)) : Ending.returned (.tuple #[.int .i64 p, .int .i64 n, .bool b]) = .returned (.tuple #[.int .i64 (U.dec l).1, .int .i64 (U.dec l).2.1, .bool (U.dec l).2.2]) := by
  rw [h]
theorem drop_cons (s : ByteArray) (k : Nat) (hk : k < s.size) : s.data.toList.drop k = s[k] :: s.data.toList.drop (k + 1) := by
  rw [List.drop_eq_getElem_cons (by simpa using hk)]; rfl
theorem drop_end (s : ByteArray) (k : Nat) (hk : s.size ≤ k) : s.data.toList.drop k = [] := List.drop_eq_nil_of_le (by simpa using hk)
set_option maxRecDepth 100000 in
set_option maxHeartbeats 400000 in
theorem decode_0 (s : ByteArray) (k : Nat) (_hs : s.size ≤ 4294967296) (hk : k < s.size) (w : World) (hb : s[k].toNat < 256) (hd : Hid (s.data.toList.drop k = s[k] :: s.data.toList.drop (k + 1))) (e : U.tsize s[k].toNat = 0) :
    Calls Tryd.prog 51 #[.string s, .int .i64 k] w fun e w' => e = .returned (.tuple #[.int .i64 (U.dec (s.data.toList.drop k)).1, .int .i64 (U.dec (s.data.toList.drop k)).2.1, .bool (U.dec (s.data.toList.drop k)).2.2]) ∧ w = w' := by
  go_enter Tryd.func51, Tryd.ntmps51
  go_wp2_with ((go_at_call 58; (with_reducible refine (tail_any _ (by omega) _).mono ?_); rintro e w' ⟨rfl, rfl⟩))
  go_ret3
  exact ⟨ret_dec (p := 0) (n := 0) (b := false) (by rw [hd.out]; exact U.dec0 _ _ e), rfl⟩
set_option maxRecDepth 100000 in
set_option maxHeartbeats 400000 in
theorem decode_1 (s : ByteArray) (k : Nat) (_hs : s.size ≤ 4294967296) (hk : k < s.size) (w : World) (hb : s[k].toNat < 256) (hd : Hid (s.data.toList.drop k = s[k] :: s.data.toList.drop (k + 1))) (e : U.tsize s[k].toNat = 1) (_h : s[k].toNat < 128) :
    Calls Tryd.prog 51 #[.string s, .int .i64 k] w fun e w' => e = .returned (.tuple #[.int .i64 (U.dec (s.data.toList.drop k)).1, .int .i64 (U.dec (s.data.toList.drop k)).2.1, .bool (U.dec (s.data.toList.drop k)).2.2]) ∧ w = w' := by
  go_enter Tryd.func51, Tryd.ntmps51
  go_wp2_with ((go_at_call 58; (with_reducible refine (tail_any _ (by omega) _).mono ?_); rintro e w' ⟨rfl, rfl⟩))
  go_ret3
  exact ⟨ret_dec (p := s[k].toNat) (n := 1) (b := true) (by rw [hd.out]; simp [U.dec, e]), rfl⟩
set_option maxRecDepth 100000 in
set_option maxHeartbeats 400000 in
theorem decode_2 (s : ByteArray) (k : Nat) (hs : s.size ≤ 4294967296) (hk : k < s.size) (w : World) (hb : s[k].toNat < 256) (hd : Hid (s.data.toList.drop k = s[k] :: s.data.toList.drop (k + 1))) (e : U.tsize s[k].toNat = 2) (h : 194 ≤ s[k].toNat) (h' : s[k].toNat < 224) :
    Calls Tryd.prog 51 #[.string s, .int .i64 k] w fun e w' => e = .returned (.tuple #[.int .i64 (U.dec (s.data.toList.drop k)).1, .int .i64 (U.dec (s.data.toList.drop k)).2.1, .bool (U.dec (s.data.toList.drop k)).2.2]) ∧ w = w' := by
  have hD := Lib.hid (show U.dec (s.data.toList.drop k) = U.decGo (U.tsize s[k].toNat - 1) (U.tlow s[k].toNat) (U.thigh s[k].toNat) (U.tlead s[k].toNat) 1 (s.data.toList.drop (k + 1)) by rw [hd.out]; exact U.decN _ _ (by omega) (by omega))
  have hlo : U.tlow s[k].toNat < 256 ∧ U.thigh s[k].toNat < 256 := by unfold U.tlow U.thigh; (repeat' split) <;> omega
  have hle := Lib.hid (show U.tlead s[k].toNat = s[k].toNat % 2 ^ (7 - U.tsize s[k].toNat) ∧ U.tlead s[k].toNat < 64 by rw [e]; unfold U.tlead; (repeat' split) <;> omega)
  rw [e] at hD hle
  go_enter Tryd.func51, Tryd.ntmps51
  go_wp2_with ((go_at_call 58; (with_reducible refine (tail_any _ (by omega) _).mono ?_); rintro e w' ⟨rfl, rfl⟩))
  go_loop [4, 5, 8, 9] (fun p z lo hi => ∃ (P Z L H : Nat), p = .int .i64 P ∧ z = .int .i64 Z ∧ lo = .int .u8 L ∧ hi = .int .u8 H ∧ 1 ≤ Z ∧ Z ≤ 2 ∧ L < 256 ∧ H < 256 ∧ P < 64 ^ Z ∧
      U.decGo (2 - Z) L H P Z (s.data.toList.drop (k + Z)) = U.dec (s.data.toList.drop k)) (fun _ z _ _ => 2 - (intOf z).toNat)
  case atStart =>
    refine ⟨U.tlead s[k].toNat, 1, U.tlow s[k].toNat, U.thigh s[k].toNat, ?_, rfl, rfl, rfl, by omega, by omega, hlo.1, hlo.2, ?_, hD.out.symm⟩
    · have := hle.out.1
      rw [i64_and31 _ (by omega) (by omega)]
      exact congrArg (Value.int .i64) (by omega)
    · have := hle.out.2; simpa using this
  case round =>
    obtain ⟨P, Z, L, H, rfl, rfl, rfl, rfl, h1, h2, hL, hH, hP, hgo⟩ := hrel
    have Hgo := Lib.hid hgo
    have HP := Lib.hid hP
    clear hgo hP
    have hP4 : P < 16777216 := by have : (64 : Nat) ^ Z ≤ 64 ^ 4 := Nat.pow_le_pow_right (by omega) (by omega); have := HP.out; omega
    clear hd hD hle h h' hb hlo e
    by_cases hz : Z < 2
    · have e1 := Lib.hid (show 2 - Z = (2 - Z - 1) + 1 by omega)
      by_cases hend : k + Z < s.size
      · have hc := UInt8.toNat_lt s[k + Z]
        have hdc := Lib.hid (drop_cons s (k + Z) hend)
        by_cases hin : s[k + Z].toNat < L ∨ H < s[k + Z].toNat
        · rcases (by omega : s[k + Z].toNat < L ∨ (L ≤ s[k + Z].toNat ∧ H < s[k + Z].toNat)) with hin | ⟨hin, hin'⟩
          all_goals
            go_wp2
            go_ret3
            exact ⟨ret_dec (p := 0) (n := Z) (b := false) (by rw [← Hgo.out, e1.out, hdc.out]; exact U.go_out _ _ _ _ _ _ _ (by omega)), rfl⟩
        · have hi1 : L ≤ s[k + Z].toNat := by omega
          have hi2 : s[k + Z].toNat ≤ H := by omega
          clear hin
          go_wp2
          go_round
          case rel =>
            refine ⟨P * 64 + s[k + Z].toNat % 64, Z + 1, 128, 191, ?_, by go_num, rfl, rfl, by omega, by omega, by omega, by omega, ?_, ?_⟩
            · exact congrArg (Value.int .i64) (i64_step _ _ hP4 hc)
            · have := HP.out; rw [Nat.pow_succ]; omega
            · rw [← Hgo.out, e1.out, hdc.out, U.go_in _ _ _ _ _ _ _ (by omega)]; rfl
          case measure => simp [intOf]; omega
      · have hz2 := Lib.hid (drop_end s (k + Z) (by omega))
        have hend2 : s.size ≤ k + Z := by omega
        clear hend
        go_wp2
        go_ret3
        exact ⟨ret_dec (p := 0) (n := Z) (b := false) (by rw [← Hgo.out, e1.out, hz2.out]; exact U.go_nil _ _ _ _ _), rfl⟩
    · have e1 := Lib.hid (show 2 - Z = 0 by omega)
      go_wp2
      go_ret3
      exact ⟨ret_dec (p := P) (n := Z) (b := true) (by rw [← Hgo.out, e1.out]; rfl), rfl⟩
set_option maxRecDepth 100000 in
set_option maxHeartbeats 400000 in
theorem decode_3 (s : ByteArray) (k : Nat) (hs : s.size ≤ 4294967296) (hk : k < s.size) (w : World) (hb : s[k].toNat < 256) (hd : Hid (s.data.toList.drop k = s[k] :: s.data.toList.drop (k + 1))) (e : U.tsize s[k].toNat = 3) (h : 224 ≤ s[k].toNat) (h' : s[k].toNat < 240) :
    Calls Tryd.prog 51 #[.string s, .int .i64 k] w fun e w' => e = .returned (.tuple #[.int .i64 (U.dec (s.data.toList.drop k)).1, .int .i64 (U.dec (s.data.toList.drop k)).2.1, .bool (U.dec (s.data.toList.drop k)).2.2]) ∧ w = w' := by
  have hD := Lib.hid (show U.dec (s.data.toList.drop k) = U.decGo (U.tsize s[k].toNat - 1) (U.tlow s[k].toNat) (U.thigh s[k].toNat) (U.tlead s[k].toNat) 1 (s.data.toList.drop (k + 1)) by rw [hd.out]; exact U.decN _ _ (by omega) (by omega))
  have hlo : U.tlow s[k].toNat < 256 ∧ U.thigh s[k].toNat < 256 := by unfold U.tlow U.thigh; (repeat' split) <;> omega
  have hle := Lib.hid (show U.tlead s[k].toNat = s[k].toNat % 2 ^ (7 - U.tsize s[k].toNat) ∧ U.tlead s[k].toNat < 64 by rw [e]; unfold U.tlead; (repeat' split) <;> omega)
  rw [e] at hD hle
  go_enter Tryd.func51, Tryd.ntmps51
  go_wp2_with ((go_at_call 58; (with_reducible refine (tail_any _ (by omega) _).mono ?_); rintro e w' ⟨rfl, rfl⟩))
  go_loop [4, 5, 8, 9] (fun p z lo hi => ∃ (P Z L H : Nat), p = .int .i64 P ∧ z = .int .i64 Z ∧ lo = .int .u8 L ∧ hi = .int .u8 H ∧ 1 ≤ Z ∧ Z ≤ 3 ∧ L < 256 ∧ H < 256 ∧ P < 64 ^ Z ∧
      U.decGo (3 - Z) L H P Z (s.data.toList.drop (k + Z)) = U.dec (s.data.toList.drop k)) (fun _ z _ _ => 3 - (intOf z).toNat)
  case atStart =>
    refine ⟨U.tlead s[k].toNat, 1, U.tlow s[k].toNat, U.thigh s[k].toNat, ?_, rfl, rfl, rfl, by omega, by omega, hlo.1, hlo.2, ?_, hD.out.symm⟩
    · have := hle.out.1
      rw [i64_and15 _ (by omega) (by omega)]
      exact congrArg (Value.int .i64) (by omega)
    · have := hle.out.2; simpa using this
  case round =>
    obtain ⟨P, Z, L, H, rfl, rfl, rfl, rfl, h1, h2, hL, hH, hP, hgo⟩ := hrel
    have Hgo := Lib.hid hgo
    have HP := Lib.hid hP
    clear hgo hP
    have hP4 : P < 16777216 := by have : (64 : Nat) ^ Z ≤ 64 ^ 4 := Nat.pow_le_pow_right (by omega) (by omega); have := HP.out; omega
    clear hd hD hle h h' hb hlo e
    by_cases hz : Z < 3
    · have e1 := Lib.hid (show 3 - Z = (3 - Z - 1) + 1 by omega)
      by_cases hend : k + Z < s.size
      · have hc := UInt8.toNat_lt s[k + Z]
        have hdc := Lib.hid (drop_cons s (k + Z) hend)
        by_cases hin : s[k + Z].toNat < L ∨ H < s[k + Z].toNat
        · rcases (by omega : s[k + Z].toNat < L ∨ (L ≤ s[k + Z].toNat ∧ H < s[k + Z].toNat)) with hin | ⟨hin, hin'⟩
          all_goals
            go_wp2
            go_ret3
            exact ⟨ret_dec (p := 0) (n := Z) (b := false) (by rw [← Hgo.out, e1.out, hdc.out]; exact U.go_out _ _ _ _ _ _ _ (by omega)), rfl⟩
        · have hi1 : L ≤ s[k + Z].toNat := by omega
          have hi2 : s[k + Z].toNat ≤ H := by omega
          clear hin
          go_wp2
          go_round
          case rel =>
            refine ⟨P * 64 + s[k + Z].toNat % 64, Z + 1, 128, 191, ?_, by go_num, rfl, rfl, by omega, by omega, by omega, by omega, ?_, ?_⟩
            · exact congrArg (Value.int .i64) (i64_step _ _ hP4 hc)
            · have := HP.out; rw [Nat.pow_succ]; omega
            · rw [← Hgo.out, e1.out, hdc.out, U.go_in _ _ _ _ _ _ _ (by omega)]; rfl
          case measure => simp [intOf]; omega
      · have hz2 := Lib.hid (drop_end s (k + Z) (by omega))
        have hend2 : s.size ≤ k + Z := by omega
        clear hend
        go_wp2
        go_ret3
        exact ⟨ret_dec (p := 0) (n := Z) (b := false) (by rw [← Hgo.out, e1.out, hz2.out]; exact U.go_nil _ _ _ _ _), rfl⟩
    · have e1 := Lib.hid (show 3 - Z = 0 by omega)
      go_wp2
      go_ret3
      exact ⟨ret_dec (p := P) (n := Z) (b := true) (by rw [← Hgo.out, e1.out]; rfl), rfl⟩
set_option maxRecDepth 100000 in
set_option maxHeartbeats 400000 in
theorem decode_4 (s : ByteArray) (k : Nat) (hs : s.size ≤ 4294967296) (hk : k < s.size) (w : World) (hb : s[k].toNat < 256) (hd : Hid (s.data.toList.drop k = s[k] :: s.data.toList.drop (k + 1))) (e : U.tsize s[k].toNat = 4) (h : 240 ≤ s[k].toNat) (h' : s[k].toNat ≤ 244) :
    Calls Tryd.prog 51 #[.string s, .int .i64 k] w fun e w' => e = .returned (.tuple #[.int .i64 (U.dec (s.data.toList.drop k)).1, .int .i64 (U.dec (s.data.toList.drop k)).2.1, .bool (U.dec (s.data.toList.drop k)).2.2]) ∧ w = w' := by
  have hD := Lib.hid (show U.dec (s.data.toList.drop k) = U.decGo (U.tsize s[k].toNat - 1) (U.tlow s[k].toNat) (U.thigh s[k].toNat) (U.tlead s[k].toNat) 1 (s.data.toList.drop (k + 1)) by rw [hd.out]; exact U.decN _ _ (by omega) (by omega))
  have hlo : U.tlow s[k].toNat < 256 ∧ U.thigh s[k].toNat < 256 := by unfold U.tlow U.thigh; (repeat' split) <;> omega
  have hle := Lib.hid (show U.tlead s[k].toNat = s[k].toNat % 2 ^ (7 - U.tsize s[k].toNat) ∧ U.tlead s[k].toNat < 64 by rw [e]; unfold U.tlead; (repeat' split) <;> omega)
  rw [e] at hD hle
  go_enter Tryd.func51, Tryd.ntmps51
  go_wp2_with ((go_at_call 58; (with_reducible refine (tail_any _ (by omega) _).mono ?_); rintro e w' ⟨rfl, rfl⟩))
  go_loop [4, 5, 8, 9] (fun p z lo hi => ∃ (P Z L H : Nat), p = .int .i64 P ∧ z = .int .i64 Z ∧ lo = .int .u8 L ∧ hi = .int .u8 H ∧ 1 ≤ Z ∧ Z ≤ 4 ∧ L < 256 ∧ H < 256 ∧ P < 64 ^ Z ∧
      U.decGo (4 - Z) L H P Z (s.data.toList.drop (k + Z)) = U.dec (s.data.toList.drop k)) (fun _ z _ _ => 4 - (intOf z).toNat)
  case atStart =>
    refine ⟨U.tlead s[k].toNat, 1, U.tlow s[k].toNat, U.thigh s[k].toNat, ?_, rfl, rfl, rfl, by omega, by omega, hlo.1, hlo.2, ?_, hD.out.symm⟩
    · have := hle.out.1
      rw [i64_and7 _ (by omega) (by omega)]
      exact congrArg (Value.int .i64) (by omega)
    · have := hle.out.2; simpa using this
  case round =>
    obtain ⟨P, Z, L, H, rfl, rfl, rfl, rfl, h1, h2, hL, hH, hP, hgo⟩ := hrel
    have Hgo := Lib.hid hgo
    have HP := Lib.hid hP
    clear hgo hP
    have hP4 : P < 16777216 := by have : (64 : Nat) ^ Z ≤ 64 ^ 4 := Nat.pow_le_pow_right (by omega) (by omega); have := HP.out; omega
    clear hd hD hle h h' hb hlo e
    by_cases hz : Z < 4
    · have e1 := Lib.hid (show 4 - Z = (4 - Z - 1) + 1 by omega)
      by_cases hend : k + Z < s.size
      · have hc := UInt8.toNat_lt s[k + Z]
        have hdc := Lib.hid (drop_cons s (k + Z) hend)
        by_cases hin : s[k + Z].toNat < L ∨ H < s[k + Z].toNat
        · rcases (by omega : s[k + Z].toNat < L ∨ (L ≤ s[k + Z].toNat ∧ H < s[k + Z].toNat)) with hin | ⟨hin, hin'⟩
          all_goals
            go_wp2
            go_ret3
            exact ⟨ret_dec (p := 0) (n := Z) (b := false) (by rw [← Hgo.out, e1.out, hdc.out]; exact U.go_out _ _ _ _ _ _ _ (by omega)), rfl⟩
        · have hi1 : L ≤ s[k + Z].toNat := by omega
          have hi2 : s[k + Z].toNat ≤ H := by omega
          clear hin
          go_wp2
          go_round
          case rel =>
            refine ⟨P * 64 + s[k + Z].toNat % 64, Z + 1, 128, 191, ?_, by go_num, rfl, rfl, by omega, by omega, by omega, by omega, ?_, ?_⟩
            · exact congrArg (Value.int .i64) (i64_step _ _ hP4 hc)
            · have := HP.out; rw [Nat.pow_succ]; omega
            · rw [← Hgo.out, e1.out, hdc.out, U.go_in _ _ _ _ _ _ _ (by omega)]; rfl
          case measure => simp [intOf]; omega
      · have hz2 := Lib.hid (drop_end s (k + Z) (by omega))
        have hend2 : s.size ≤ k + Z := by omega
        clear hend
        go_wp2
        go_ret3
        exact ⟨ret_dec (p := 0) (n := Z) (b := false) (by rw [← Hgo.out, e1.out, hz2.out]; exact U.go_nil _ _ _ _ _), rfl⟩
    · have e1 := Lib.hid (show 4 - Z = 0 by omega)
      go_wp2
      go_ret3
      exact ⟨ret_dec (p := P) (n := Z) (b := true) (by rw [← Hgo.out, e1.out]; rfl), rfl⟩
theorem decode_any (s : ByteArray) (k : Nat) (hs : s.size ≤ 4294967296) (hk : k < s.size) (w : World) :
    Calls Tryd.prog 51 #[.string s, .int .i64 k] w fun e w' => e = .returned (.tuple #[.int .i64 (U.dec (s.data.toList.drop k)).1, .int .i64 (U.dec (s.data.toList.drop k)).2.1, .bool (U.dec (s.data.toList.drop k)).2.2]) ∧ w = w' := by
  have hb := UInt8.toNat_lt s[k]
  have hd := Lib.hid (drop_cons s k hk)
  rcases U.tsize_cases s[k].toNat with e | ⟨e, h⟩ | ⟨e, h, h'⟩ | ⟨e, h, h'⟩ | ⟨e, h, h'⟩
  · exact decode_0 s k hs hk w hb hd e
  · exact decode_1 s k hs hk w hb hd e h
  · exact decode_2 s k hs hk w hb hd e h h'
  · exact decode_3 s k hs hk w hb hd e h h'
  · exact decode_4 s k hs hk w hb hd e h h'
end Go.Proofs.YtdcdlmigagjbiaaDoor
