/- The texts WkA WkB WkC WkD WkE WkF Bld of the claim HyphenateNil in one. -/
import Derived.Test.YtdcdlmigagjbiaaDoorRows
import Derived.Test.YtdcdlmigagjbiaaDoorKa
import Derived.WalkKit
import Derived.WalkSpells
import Derived.WalkLawsBesides
import Derived.Outline
import Derived.Lib.Hide
import Derived.Shelf.Strings.Builder1
import Derived.Shelf.LaysM
import Derived.Shelf.Strconv.Clone
namespace Go.Proofs.YtdcdlmigagjbiaaDoor
open Go.RowKit
theorem ret_tail {b lo hi n : Nat} (h1 : U.tlow b = lo) (h2 : U.thigh b = hi) (h3 : U.tsize b = n) : Ending.returned (.tuple #[.int .u8 lo, .int .u8 hi, .int .i64 n]) = .returned (.tuple #[.int .u8 (U.tlow b), .int .u8 (U.thigh b), .int .i64 (U.tsize b)]) := by
  rw [h1, h2, h3]
set_option maxRecDepth 100000 in
set_option maxHeartbeats 400000 in
theorem tail_any (b : Nat) (hb : b < 256) (w : World) :
    Calls Tryd.prog 58 #[.int .u8 b] w fun e w' => e = .returned (.tuple #[.int .u8 (U.tlow b), .int .u8 (U.thigh b), .int .i64 (U.tsize b)]) ∧ w = w' := by
  rcases (by omega : b < 128 ∨ (128 ≤ b ∧ b < 194) ∨ (194 ≤ b ∧ b < 224) ∨ (224 ≤ b ∧ b < 225) ∨ (225 ≤ b ∧ b < 237) ∨ (237 ≤ b ∧ b < 238) ∨ (238 ≤ b ∧ b < 240) ∨ (240 ≤ b ∧ b < 241) ∨ (241 ≤ b ∧ b < 244) ∨ (244 ≤ b ∧ b < 245) ∨ 245 ≤ b) with h | ⟨h, h'⟩ | ⟨h, h'⟩ | ⟨h, h'⟩ | ⟨h, h'⟩ | ⟨h, h'⟩ | ⟨h, h'⟩ | ⟨h, h'⟩ | ⟨h, h'⟩ | ⟨h, h'⟩ | h
  all_goals
    go_enter Tryd.func58, Tryd.ntmps58
    go_wp2
    go_ret3
    exact ⟨ret_tail (by unfold U.tlow; (repeat' split) <;> first | rfl | omega) (by unfold U.thigh; (repeat' split) <;> first | rfl | omega) (by unfold U.tsize; (repeat' split) <;> first | rfl | omega), rfl⟩
end Go.Proofs.YtdcdlmigagjbiaaDoor
/- The walks of tail and decode: the code point at a byte offset. -/
namespace Go.Proofs.YtdcdlmigagjbiaaDoor
open Go.RowKit
theorem ret_dec {l : List UInt8} {p n : Nat} {b : Bool} (h : U.dec l = (p, n, b)) : Ending.returned (.tuple #[.int .i64 p, .int .i64 n, .bool b]) = .returned (.tuple #[.int .i64 (U.dec l).1, .int .i64 (U.dec l).2.1, .bool (U.dec l).2.2]) := by
  rw [h]
theorem drop_cons (s : ByteArray) (k : Nat) (hk : k < s.size) : s.data.toList.drop k = s[k] :: s.data.toList.drop (k + 1) := by
  rw [List.drop_eq_getElem_cons (by simpa using hk)]; rfl
theorem drop_end (s : ByteArray) (k : Nat) (hk : s.size ≤ k) : s.data.toList.drop k = [] := List.drop_eq_nil_of_le (by simpa using hk)
set_option maxRecDepth 100000 in
set_option maxHeartbeats 400000 in
theorem decode_0 (s : ByteArray) (k : Nat) (_hs : s.size ≤ 4294967296) (hk : k < s.size) (w : World) (hb : s[k].toNat < 256) (hd : Hid (s.data.toList.drop k = s[k] :: s.data.toList.drop (k + 1))) (e : U.tsize s[k].toNat = 0) :
    Calls Tryd.prog 51 #[.string s, .int .i64 k] w fun e w' => e = .returned (.tuple #[.int .i64 (U.dec (s.data.toList.drop k)).1, .int .i64 (U.dec (s.data.toList.drop k)).2.1, .bool (U.dec (s.data.toList.drop k)).2.2]) ∧ w = w' := by
  go_enter Tryd.func51, Tryd.ntmps51
  go_wp2_with ((go_at_call 58; (with_reducible refine (tail_any _ (by omega) _).mono ?_); rintro e w' ⟨rfl, rfl⟩))
  go_ret3
  exact ⟨ret_dec (p := 0) (n := 0) (b := false) (by rw [hd.out]; exact U.dec0 _ _ e), rfl⟩
set_option maxRecDepth 100000 in
set_option maxHeartbeats 400000 in
theorem decode_1 (s : ByteArray) (k : Nat) (_hs : s.size ≤ 4294967296) (hk : k < s.size) (w : World) (hb : s[k].toNat < 256) (hd : Hid (s.data.toList.drop k = s[k] :: s.data.toList.drop (k + 1))) (e : U.tsize s[k].toNat = 1) (_h : s[k].toNat < 128) :
    Calls Tryd.prog 51 #[.string s, .int .i64 k] w fun e w' => e = .returned (.tuple #[.int .i64 (U.dec (s.data.toList.drop k)).1, .int .i64 (U.dec (s.data.toList.drop k)).2.1, .bool (U.dec (s.data.toList.drop k)).2.2]) ∧ w = w' := by
  go_enter Tryd.func51, Tryd.ntmps51
  go_wp2_with ((go_at_call 58; (with_reducible refine (tail_any _ (by omega) _).mono ?_); rintro e w' ⟨rfl, rfl⟩))
  go_ret3
  exact ⟨ret_dec (p := s[k].toNat) (n := 1) (b := true) (by rw [hd.out]; simp [U.dec, e]), rfl⟩
set_option maxRecDepth 100000 in
set_option maxHeartbeats 400000 in
theorem decode_2 (s : ByteArray) (k : Nat) (hs : s.size ≤ 4294967296) (hk : k < s.size) (w : World) (hb : s[k].toNat < 256) (hd : Hid (s.data.toList.drop k = s[k] :: s.data.toList.drop (k + 1))) (e : U.tsize s[k].toNat = 2) (h : 194 ≤ s[k].toNat) (h' : s[k].toNat < 224) :
    Calls Tryd.prog 51 #[.string s, .int .i64 k] w fun e w' => e = .returned (.tuple #[.int .i64 (U.dec (s.data.toList.drop k)).1, .int .i64 (U.dec (s.data.toList.drop k)).2.1, .bool (U.dec (s.data.toList.drop k)).2.2]) ∧ w = w' := by
  have hD := Lib.hid (show U.dec (s.data.toList.drop k) = U.decGo (U.tsize s[k].toNat - 1) (U.tlow s[k].toNat) (U.thigh s[k].toNat) (U.tlead s[k].toNat) 1 (s.data.toList.drop (k + 1)) by rw [hd.out]; exact U.decN _ _ (by omega) (by omega))
  have hlo : U.tlow s[k].toNat < 256 ∧ U.thigh s[k].toNat < 256 := by unfold U.tlow U.thigh; (repeat' split) <;> omega
  have hle := Lib.hid (show U.tlead s[k].toNat = s[k].toNat % 2 ^ (7 - U.tsize s[k].toNat) ∧ U.tlead s[k].toNat < 64 by rw [e]; unfold U.tlead; (repeat' split) <;> omega)
  rw [e] at hD hle
  go_enter Tryd.func51, Tryd.ntmps51
  go_wp2_with ((go_at_call 58; (with_reducible refine (tail_any _ (by omega) _).mono ?_); rintro e w' ⟨rfl, rfl⟩))
  go_loop [4, 5, 8, 9] (fun p z lo hi => ∃ (P Z L H : Nat), p = .int .i64 P ∧ z = .int .i64 Z ∧ lo = .int .u8 L ∧ hi = .int .u8 H ∧ 1 ≤ Z ∧ Z ≤ 2 ∧ L < 256 ∧ H < 256 ∧ P < 64 ^ Z ∧
      U.decGo (2 - Z) L H P Z (s.data.toList.drop (k + Z)) = U.dec (s.data.toList.drop k)) (fun _ z _ _ => 2 - (intOf z).toNat)
  case atStart =>
    refine ⟨U.tlead s[k].toNat, 1, U.tlow s[k].toNat, U.thigh s[k].toNat, ?_, rfl, rfl, rfl, by omega, by omega, hlo.1, hlo.2, ?_, hD.out.symm⟩
    · have := hle.out.1
      rw [i64_and31 _ (by omega) (by omega)]
      exact congrArg (Value.int .i64) (by omega)
    · have := hle.out.2; simpa using this
  case round =>
    obtain ⟨P, Z, L, H, rfl, rfl, rfl, rfl, h1, h2, hL, hH, hP, hgo⟩ := hrel
    have Hgo := Lib.hid hgo
    have HP := Lib.hid hP
    clear hgo hP
    have hP4 : P < 16777216 := by have : (64 : Nat) ^ Z ≤ 64 ^ 4 := Nat.pow_le_pow_right (by omega) (by omega); have := HP.out; omega
    clear hd hD hle h h' hb hlo e
    by_cases hz : Z < 2
    · have e1 := Lib.hid (show 2 - Z = (2 - Z - 1) + 1 by omega)
      by_cases hend : k + Z < s.size
      · have hc := UInt8.toNat_lt s[k + Z]
        have hdc := Lib.hid (drop_cons s (k + Z) hend)
        by_cases hin : s[k + Z].toNat < L ∨ H < s[k + Z].toNat
        · rcases (by omega : s[k + Z].toNat < L ∨ (L ≤ s[k + Z].toNat ∧ H < s[k + Z].toNat)) with hin | ⟨hin, hin'⟩
          all_goals
            go_wp2
            go_ret3
            exact ⟨ret_dec (p := 0) (n := Z) (b := false) (by rw [← Hgo.out, e1.out, hdc.out]; exact U.go_out _ _ _ _ _ _ _ (by omega)), rfl⟩
        · have hi1 : L ≤ s[k + Z].toNat := by omega
          have hi2 : s[k + Z].toNat ≤ H := by omega
          clear hin
          go_wp2
          go_round
          case rel =>
            refine ⟨P * 64 + s[k + Z].toNat % 64, Z + 1, 128, 191, ?_, by go_num, rfl, rfl, by omega, by omega, by omega, by omega, ?_, ?_⟩
            · exact congrArg (Value.int .i64) (i64_step _ _ hP4 hc)
            · have := HP.out; rw [Nat.pow_succ]; omega
            · rw [← Hgo.out, e1.out, hdc.out, U.go_in _ _ _ _ _ _ _ (by omega)]; rfl
          case measure => simp [intOf]; omega
      · have hz2 := Lib.hid (drop_end s (k + Z) (by omega))
        have hend2 : s.size ≤ k + Z := by omega
        clear hend
        go_wp2
        go_ret3
        exact ⟨ret_dec (p := 0) (n := Z) (b := false) (by rw [← Hgo.out, e1.out, hz2.out]; exact U.go_nil _ _ _ _ _), rfl⟩
    · have e1 := Lib.hid (show 2 - Z = 0 by omega)
      go_wp2
      go_ret3
      exact ⟨ret_dec (p := P) (n := Z) (b := true) (by rw [← Hgo.out, e1.out]; rfl), rfl⟩
set_option maxRecDepth 100000 in
set_option maxHeartbeats 400000 in
theorem decode_3 (s : ByteArray) (k : Nat) (hs : s.size ≤ 4294967296) (hk : k < s.size) (w : World) (hb : s[k].toNat < 256) (hd : Hid (s.data.toList.drop k = s[k] :: s.data.toList.drop (k + 1))) (e : U.tsize s[k].toNat = 3) (h : 224 ≤ s[k].toNat) (h' : s[k].toNat < 240) :
    Calls Tryd.prog 51 #[.string s, .int .i64 k] w fun e w' => e = .returned (.tuple #[.int .i64 (U.dec (s.data.toList.drop k)).1, .int .i64 (U.dec (s.data.toList.drop k)).2.1, .bool (U.dec (s.data.toList.drop k)).2.2]) ∧ w = w' := by
  have hD := Lib.hid (show U.dec (s.data.toList.drop k) = U.decGo (U.tsize s[k].toNat - 1) (U.tlow s[k].toNat) (U.thigh s[k].toNat) (U.tlead s[k].toNat) 1 (s.data.toList.drop (k + 1)) by rw [hd.out]; exact U.decN _ _ (by omega) (by omega))
  have hlo : U.tlow s[k].toNat < 256 ∧ U.thigh s[k].toNat < 256 := by unfold U.tlow U.thigh; (repeat' split) <;> omega
  have hle := Lib.hid (show U.tlead s[k].toNat = s[k].toNat % 2 ^ (7 - U.tsize s[k].toNat) ∧ U.tlead s[k].toNat < 64 by rw [e]; unfold U.tlead; (repeat' split) <;> omega)
  rw [e] at hD hle
  go_enter Tryd.func51, Tryd.ntmps51
  go_wp2_with ((go_at_call 58; (with_reducible refine (tail_any _ (by omega) _).mono ?_); rintro e w' ⟨rfl, rfl⟩))
  go_loop [4, 5, 8, 9] (fun p z lo hi => ∃ (P Z L H : Nat), p = .int .i64 P ∧ z = .int .i64 Z ∧ lo = .int .u8 L ∧ hi = .int .u8 H ∧ 1 ≤ Z ∧ Z ≤ 3 ∧ L < 256 ∧ H < 256 ∧ P < 64 ^ Z ∧
      U.decGo (3 - Z) L H P Z (s.data.toList.drop (k + Z)) = U.dec (s.data.toList.drop k)) (fun _ z _ _ => 3 - (intOf z).toNat)
  case atStart =>
    refine ⟨U.tlead s[k].toNat, 1, U.tlow s[k].toNat, U.thigh s[k].toNat, ?_, rfl, rfl, rfl, by omega, by omega, hlo.1, hlo.2, ?_, hD.out.symm⟩
    · have := hle.out.1
      rw [i64_and15 _ (by omega) (by omega)]
      exact congrArg (Value.int .i64) (by omega)
    · have := hle.out.2; simpa using this
  case round =>
    obtain ⟨P, Z, L, H, rfl, rfl, rfl, rfl, h1, h2, hL, hH, hP, hgo⟩ := hrel
    have Hgo := Lib.hid hgo
    have HP := Lib.hid hP
    clear hgo hP
    have hP4 : P < 16777216 := by have : (64 : Nat) ^ Z ≤ 64 ^ 4 := Nat.pow_le_pow_right (by omega) (by omega); have := HP.out; omega
    clear hd hD hle h h' hb hlo e
    by_cases hz : Z < 3
    · have e1 := Lib.hid (show 3 - Z = (3 - Z - 1) + 1 by omega)
      by_cases hend : k + Z < s.size
      · have hc := UInt8.toNat_lt s[k + Z]
        have hdc := Lib.hid (drop_cons s (k + Z) hend)
        by_cases hin : s[k + Z].toNat < L ∨ H < s[k + Z].toNat
        · rcases (by omega : s[k + Z].toNat < L ∨ (L ≤ s[k + Z].toNat ∧ H < s[k + Z].toNat)) with hin | ⟨hin, hin'⟩
          all_goals
            go_wp2
            go_ret3
            exact ⟨ret_dec (p := 0) (n := Z) (b := false) (by rw [← Hgo.out, e1.out, hdc.out]; exact U.go_out _ _ _ _ _ _ _ (by omega)), rfl⟩
        · have hi1 : L ≤ s[k + Z].toNat := by omega
          have hi2 : s[k + Z].toNat ≤ H := by omega
          clear hin
          go_wp2
          go_round
          case rel =>
            refine ⟨P * 64 + s[k + Z].toNat % 64, Z + 1, 128, 191, ?_, by go_num, rfl, rfl, by omega, by omega, by omega, by omega, ?_, ?_⟩
            · exact congrArg (Value.int .i64) (i64_step _ _ hP4 hc)
            · have := HP.out; rw [Nat.pow_succ]; omega
            · rw [← Hgo.out, e1.out, hdc.out, U.go_in _ _ _ _ _ _ _ (by omega)]; rfl
          case measure => simp [intOf]; omega
      · have hz2 := Lib.hid (drop_end s (k + Z) (by omega))
        have hend2 : s.size ≤ k + Z := by omega
        clear hend
        go_wp2
        go_ret3
        exact ⟨ret_dec (p := 0) (n := Z) (b := false) (by rw [← Hgo.out, e1.out, hz2.out]; exact U.go_nil _ _ _ _ _), rfl⟩
    · have e1 := Lib.hid (show 3 - Z = 0 by omega)
      go_wp2
      go_ret3
      exact ⟨ret_dec (p := P) (n := Z) (b := true) (by rw [← Hgo.out, e1.out]; rfl), rfl⟩
set_option maxRecDepth 100000 in
set_option maxHeartbeats 400000 in
theorem decode_4 (s : ByteArray) (k : Nat) (hs : s.size ≤ 4294967296) (hk : k < s.size) (w : World) (hb : s[k].toNat < 256) (hd : Hid (s.data.toList.drop k = s[k] :: s.data.toList.drop (k + 1))) (e : U.tsize s[k].toNat = 4) (h : 240 ≤ s[k].toNat) (h' : s[k].toNat ≤ 244) :
    Calls Tryd.prog 51 #[.string s, .int .i64 k] w fun e w' => e = .returned (.tuple #[.int .i64 (U.dec (s.data.toList.drop k)).1, .int .i64 (U.dec (s.data.toList.drop k)).2.1, .bool (U.dec (s.data.toList.drop k)).2.2]) ∧ w = w' := by
  have hD := Lib.hid (show U.dec (s.data.toList.drop k) = U.decGo (U.tsize s[k].toNat - 1) (U.tlow s[k].toNat) (U.thigh s[k].toNat) (U.tlead s[k].toNat) 1 (s.data.toList.drop (k + 1)) by rw [hd.out]; exact U.decN _ _ (by omega) (by omega))
  have hlo : U.tlow s[k].toNat < 256 ∧ U.thigh s[k].toNat < 256 := by unfold U.tlow U.thigh; (repeat' split) <;> omega
  have hle := Lib.hid (show U.tlead s[k].toNat = s[k].toNat % 2 ^ (7 - U.tsize s[k].toNat) ∧ U.tlead s[k].toNat < 64 by rw [e]; unfold U.tlead; (repeat' split) <;> omega)
  rw [e] at hD hle
  go_enter Tryd.func51, Tryd.ntmps51
  go_wp2_with ((go_at_call 58; (with_reducible refine (tail_any _ (by omega) _).mono ?_); rintro e w' ⟨rfl, rfl⟩))
  go_loop [4, 5, 8, 9] (fun p z lo hi => ∃ (P Z L H : Nat), p = .int .i64 P ∧ z = .int .i64 Z ∧ lo = .int .u8 L ∧ hi = .int .u8 H ∧ 1 ≤ Z ∧ Z ≤ 4 ∧ L < 256 ∧ H < 256 ∧ P < 64 ^ Z ∧
      U.decGo (4 - Z) L H P Z (s.data.toList.drop (k + Z)) = U.dec (s.data.toList.drop k)) (fun _ z _ _ => 4 - (intOf z).toNat)
  case atStart =>
    refine ⟨U.tlead s[k].toNat, 1, U.tlow s[k].toNat, U.thigh s[k].toNat, ?_, rfl, rfl, rfl, by omega, by omega, hlo.1, hlo.2, ?_, hD.out.symm⟩
    · have := hle.out.1
      rw [i64_and7 _ (by omega) (by omega)]
      exact congrArg (Value.int .i64) (by omega)
    · have := hle.out.2; simpa using this
  case round =>
    obtain ⟨P, Z, L, H, rfl, rfl, rfl, rfl, h1, h2, hL, hH, hP, hgo⟩ := hrel
    have Hgo := Lib.hid hgo
    have HP := Lib.hid hP
    clear hgo hP
    have hP4 : P < 16777216 := by have : (64 : Nat) ^ Z ≤ 64 ^ 4 := Nat.pow_le_pow_right (by omega) (by omega); have := HP.out; omega
    clear hd hD hle h h' hb hlo e
    by_cases hz : Z < 4
    · have e1 := Lib.hid (show 4 - Z = (4 - Z - 1) + 1 by omega)
      by_cases hend : k + Z < s.size
      · have hc := UInt8.toNat_lt s[k + Z]
        have hdc := Lib.hid (drop_cons s (k + Z) hend)
        by_cases hin : s[k + Z].toNat < L ∨ H < s[k + Z].toNat
        · rcases (by omega : s[k + Z].toNat < L ∨ (L ≤ s[k + Z].toNat ∧ H < s[k + Z].toNat)) with hin | ⟨hin, hin'⟩
          all_goals
            go_wp2
            go_ret3
            exact ⟨ret_dec (p := 0) (n := Z) (b := false) (by rw [← Hgo.out, e1.out, hdc.out]; exact U.go_out _ _ _ _ _ _ _ (by omega)), rfl⟩
        · have hi1 : L ≤ s[k + Z].toNat := by omega
          have hi2 : s[k + Z].toNat ≤ H := by omega
          clear hin
          go_wp2
          go_round
          case rel =>
            refine ⟨P * 64 + s[k + Z].toNat % 64, Z + 1, 128, 191, ?_, by go_num, rfl, rfl, by omega, by omega, by omega, by omega, ?_, ?_⟩
            · exact congrArg (Value.int .i64) (i64_step _ _ hP4 hc)
            · have := HP.out; rw [Nat.pow_succ]; omega
            · rw [← Hgo.out, e1.out, hdc.out, U.go_in _ _ _ _ _ _ _ (by omega)]; rfl
          case measure => simp [intOf]; omega
      · have hz2 := Lib.hid (drop_end s (k + Z) (by omega))
        have hend2 : s.size ≤ k + Z := by omega
        clear hend
        go_wp2
        go_ret3
        exact ⟨ret_dec (p := 0) (n := Z) (b := false) (by rw [← Hgo.out, e1.out, hz2.out]; exact U.go_nil _ _ _ _ _), rfl⟩
    · have e1 := Lib.hid (show 4 - Z = 0 by omega)
      go_wp2
      go_ret3
      exact ⟨ret_dec (p := P) (n := Z) (b := true) (by rw [← Hgo.out, e1.out]; rfl), rfl⟩
theorem decode_any (s : ByteArray) (k : Nat) (hs : s.size ≤ 4294967296) (hk : k < s.size) (w : World) :
    Calls Tryd.prog 51 #[.string s, .int .i64 k] w fun e w' => e = .returned (.tuple #[.int .i64 (U.dec (s.data.toList.drop k)).1, .int .i64 (U.dec (s.data.toList.drop k)).2.1, .bool (U.dec (s.data.toList.drop k)).2.2]) ∧ w = w' := by
  have hb := UInt8.toNat_lt s[k]
  have hd := Lib.hid (drop_cons s k hk)
  rcases U.tsize_cases s[k].toNat with e | ⟨e, h⟩ | ⟨e, h, h'⟩ | ⟨e, h, h'⟩ | ⟨e, h, h'⟩
  · exact decode_0 s k hs hk w hb hd e
  · exact decode_1 s k hs hk w hb hd e h
  · exact decode_2 s k hs hk w hb hd e h h'
  · exact decode_3 s k hs hk w hb hd e h h'
  · exact decode_4 s k hs hk w hb hd e h h'
end Go.Proofs.YtdcdlmigagjbiaaDoor
/- The walks of First, Valid, At, IsPoint. -/
namespace Go.Proofs.YtdcdlmigagjbiaaDoor
open Go.RowKit
def firstP (l : List UInt8) : Int := if (U.bad l).isEmpty then -1 else (l.length : Int) - (U.bad l).length
theorem dec_size (s : ByteArray) (k p n : Nat) (h : U.dec (s.data.toList.drop k) = (p, n, true)) : 1 ≤ n ∧ n ≤ 4 ∧ k + n ≤ s.size ∧ n = U.esize p ∧ U.isPt p = true ∧ U.pts (s.data.toList.drop k) = p :: U.pts (s.data.toList.drop (k + n)) ∧ U.bad (s.data.toList.drop k) = U.bad (s.data.toList.drop (k + n)) := by
  obtain ⟨h1, h2, h3⟩ := U.dec_ok _ (by rw [h])
  obtain ⟨h4, h5⟩ := U.scan_ok _ (by rw [h])
  rw [h] at h1 h2 h3 h4 h5
  simp only at h1 h2 h3 h4 h5
  have hp := U.esize_pos p
  have hl := congrArg List.length h3
  rw [List.length_append, U.enc_length, ← h2, List.length_drop, List.length_drop, List.length_drop] at hl
  have : s.data.toList.length = s.size := by simp
  rw [List.drop_drop] at h4 h5
  exact ⟨by omega, by omega, by omega, h2, h1, h4, h5⟩
theorem dec_bad (s : ByteArray) (k p n : Nat) (h : U.dec (s.data.toList.drop k) = (p, n, false)) : U.pts (s.data.toList.drop k) = [] ∧ U.bad (s.data.toList.drop k) = s.data.toList.drop k :=
  U.scan_no _ (by rw [h])
theorem decode_at (s : ByteArray) (k p n : Nat) (b : Bool) (hs : s.size ≤ 4294967296) (hk : k < s.size) (h : Hid (U.dec (s.data.toList.drop k) = (p, n, b))) (w : World) :
    Calls Tryd.prog 51 #[.string s, .int .i64 k] w fun e w' => e = .returned (.tuple #[.int .i64 p, .int .i64 n, .bool b]) ∧ w = w' := by
  have := decode_any s k hs hk w
  rw [h.out] at this
  exact this
set_option maxRecDepth 100000 in
set_option maxHeartbeats 400000 in
theorem first_any (s : ByteArray) (hs : s.size ≤ 4294967296) (w : World) :
    Calls Tryd.prog 45 #[.string s] w fun e w' => e = .returned (.int .i64 (firstP s.data.toList)) ∧ w = w' := by
  go_enter Tryd.func45, Tryd.ntmps45
  go_wp2
  go_loop [3] (fun i => ∃ k : Nat, k ≤ s.size ∧ i = .int .i64 k ∧ U.bad (s.data.toList.drop k) = U.bad s.data.toList) (fun i => s.size - (intOf i).toNat)
  case atStart => exact ⟨0, Nat.zero_le _, rfl, rfl⟩
  case round =>
    obtain ⟨k, hk, rfl, hb⟩ := hrel
    have Hb := Lib.hid hb
    clear hb
    by_cases hlt : k < s.size
    · obtain ⟨p, n, b, hd⟩ : ∃ p n b, U.dec (s.data.toList.drop k) = (p, n, b) := ⟨_, _, _, rfl⟩
      have Hd := Lib.hid hd
      clear hd
      cases b
      · have hx := Lib.hid (dec_bad s k p n Hd.out).2
        go_wp2_with ((go_at_call 51; (with_reducible refine (decode_at s k _ _ _ hs hlt Hd _).mono ?_); rintro e w' ⟨rfl, rfl⟩))
        go_ret
        refine ⟨congrArg (fun x => Ending.returned (.int .i64 x)) ?_, rfl⟩
        unfold firstP
        rw [← Hb.out, hx.out, if_neg (by simpa using hlt), List.length_drop]
        simp; omega
      · obtain ⟨h1, h2, h3, h4, h5, h6, h7⟩ := dec_size s k p n Hd.out
        have h7 := Lib.hid h7
        clear h4 h5 h6
        go_wp2_with ((go_at_call 51; (with_reducible refine (decode_at s k _ _ _ hs hlt Hd _).mono ?_); rintro e w' ⟨rfl, rfl⟩))
        go_round
        case rel => exact ⟨k + n, by omega, by go_num, by rw [← h7.out]; exact Hb.out⟩
        case measure => simp [intOf]; omega
    · have hx := Lib.hid (drop_end s k (by omega))
      go_wp2
      go_ret
      refine ⟨congrArg (fun x => Ending.returned (.int .i64 x)) ?_, rfl⟩
      unfold firstP
      rw [← Hb.out, hx.out, U.scan_nil.2]; rfl
theorem firstP_neg (l : List UInt8) : decide (firstP l < 0) = (U.bad l).isEmpty := by
  unfold firstP
  have h := congrArg List.length (U.split_all l)
  rw [List.length_append] at h
  cases hb : (U.bad l).isEmpty
  · simp only [Bool.false_eq_true, if_false]; simp; omega
  · simp
set_option maxRecDepth 100000 in
set_option maxHeartbeats 400000 in
theorem valid_any (s : ByteArray) (hs : s.size ≤ 4294967296) (w : World) :
    Calls Tryd.prog 23 #[.string s] w fun e w' => e = .returned (.bool (U.bad s.data.toList).isEmpty) ∧ w = w' := by
  go_enter Tryd.func23, Tryd.ntmps23
  have hf := Lib.hid (firstP_neg s.data.toList)
  generalize hz : firstP s.data.toList = z at hf
  have Hz := Lib.hid hz
  clear hz
  go_wp2_with ((go_at_call 45; (with_reducible refine (first_any s hs _).mono ?_); rintro e w' ⟨rfl, rfl⟩; rw [Hz.out]))
  go_ret
  exact ⟨congrArg (fun x => Ending.returned (.bool x)) hf.out, rfl⟩
end Go.Proofs.YtdcdlmigagjbiaaDoor
/- The walks of IsPoint, At, and the law's cut and same. -/
namespace Go.Proofs.YtdcdlmigagjbiaaDoor
open Go.RowKit
def isPtI (p : Int) : Bool := decide (0 ≤ p) && U.isPt p.toNat
theorem isPtI_iff (p : Int) : isPtI p = true ↔ 0 ≤ p ∧ p ≤ 1114111 ∧ ¬ (55296 ≤ p ∧ p ≤ 57343) := by
  unfold isPtI; rw [Bool.and_eq_true, U.isPt_iff, decide_eq_true_eq]; omega
theorem isPtI_false (p : Int) : isPtI p = false ↔ ¬ (0 ≤ p ∧ p ≤ 1114111 ∧ ¬ (55296 ≤ p ∧ p ≤ 57343)) := by
  rw [← isPtI_iff]; simp
set_option maxRecDepth 100000 in
set_option maxHeartbeats 400000 in
theorem isPoint_any (p : Int) (w : World) :
    Calls Tryd.prog 54 #[.int .i64 p] w fun e w' => e = .returned (.bool (isPtI p)) ∧ w = w' := by
  have yes := fun h => Lib.hid ((isPtI_iff p).2 h)
  have no := fun h => Lib.hid ((isPtI_false p).2 h)
  rcases (by omega : p < 0 ∨ 1114111 < p ∨ (0 ≤ p ∧ p < 55296) ∨ (55296 ≤ p ∧ p ≤ 57343) ∨ (57343 < p ∧ p ≤ 1114111)) with h | h | ⟨h, h'⟩ | ⟨h, h'⟩ | ⟨h, h'⟩
  case inl | inr.inl =>
    have no := no (by omega)
    clear yes
    go_enter Tryd.func54, Tryd.ntmps54
    go_wp2
    go_ret
    exact ⟨by rw [no.out]; rfl, rfl⟩
  case inr.inr.inl | inr.inr.inr.inr =>
    have yes := yes (by omega)
    clear no
    have hq : (p / 2048 != 27) = true := by rw [bne_iff_ne]; omega
    go_enter Tryd.func54, Tryd.ntmps54
    go_wp2
    go_ret
    exact ⟨by rw [yes.out]; rfl, rfl⟩
  case inr.inr.inr.inl =>
    have no := no (by omega)
    clear yes
    have hq : (p / 2048 != 27) = false := by rw [bne_eq_false_iff_eq]; omega
    go_enter Tryd.func54, Tryd.ntmps54
    go_wp2
    go_ret
    exact ⟨by rw [no.out]; rfl, rfl⟩
/-- what At returns -/
def atP (l : List UInt8) (o : Int) : Nat × Nat × Int :=
  if o < 0 ∨ (l.length : Int) ≤ o then (0, 0, 2) else if (U.dec (l.drop o.toNat)).2.2 then ((U.dec (l.drop o.toNat)).1, (U.dec (l.drop o.toNat)).2.1, 0) else (0, 0, 12)
theorem at_out (l : List UInt8) (o : Int) (h : o < 0 ∨ (l.length : Int) ≤ o) : atP l o = (0, 0, 2) := by unfold atP; rw [if_pos h]
theorem at_in (s : ByteArray) (k : Nat) (hk : k < s.size) : atP s.data.toList k = if (U.dec (s.data.toList.drop k)).2.2 then ((U.dec (s.data.toList.drop k)).1, (U.dec (s.data.toList.drop k)).2.1, 0) else (0, 0, 12) := by
  unfold atP
  have : s.data.toList.length = s.size := by simp
  rw [if_neg (by omega), Int.toNat_natCast]
theorem ret3 {a b : Nat} {c : Int} {t : Nat × Nat × Int} (h : t = (a, b, c)) : Ending.returned (.tuple #[.int .i64 a, .int .i64 b, .int .i64 c]) = .returned (.tuple #[.int .i64 t.1, .int .i64 t.2.1, .int .i64 t.2.2]) := by rw [h]
/-- the law's limit on a string -/
def cutS (s : ByteArray) : ByteArray := if s.size ≤ 300 then s else s.extract 0 300
theorem size_cutS (s : ByteArray) : (cutS s).size ≤ 300 := by
  unfold cutS
  split
  · assumption
  · simp; omega
theorem ret_cut {s t : ByteArray} (h : cutS s = t) : Ending.returned (.string t) = .returned (.string (cutS s)) := by rw [h]
end Go.Proofs.YtdcdlmigagjbiaaDoor
/- The walk of Points. -/
namespace Go.Proofs.YtdcdlmigagjbiaaDoor
open Go.RowKit
theorem int_info : (Tryd.prog.info? 3).map (fun i => (i.zero, i.size, i.bytes)) = some (some (.int .i64 0), 1, 8) := by kernel_rfl
/-- the points as ints -/
def ptsI (l : List UInt8) : List Int := (U.pts l).map fun p => ((p : Nat) : Int)
theorem pts_len (s : ByteArray) (k : Nat) (acc : List Int) (h : acc ++ ptsI (s.data.toList.drop k) = ptsI s.data.toList) : acc.length ≤ s.size := by
  have h1 := congrArg List.length h
  rw [List.length_append] at h1
  have h2 : ∀ l : List UInt8, (U.pts l).length ≤ l.length := by
    intro l
    have h3 := congrArg List.length (U.split_all l)
    have h4 : ∀ ps : List Nat, ps.length ≤ (U.encs ps).length := by
      intro ps
      induction ps with
      | nil => simp
      | cons p ps ih => rw [U.encs_cons, List.length_append, U.enc_length, List.length_cons]; have := U.esize_pos p; omega
    rw [List.length_append] at h3
    have := h4 (U.pts l)
    omega
  have := h2 s.data.toList
  have h5 : s.data.toList.length = s.size := by simp
  have h6 : (ptsI s.data.toList).length = (U.pts s.data.toList).length := by simp [ptsI]
  omega
def PointsPost (s : ByteArray) (w : World) (e : Ending) (w' : World) : Prop :=
  ∃ v, e = .returned (.tuple #[v, .int .i64 (if (U.bad s.data.toList).isEmpty then 0 else 12)]) ∧ Below w.heap.size w w' ∧ (if (U.bad s.data.toList).isEmpty then w'.ownsRow w.heap.size 3 1 v (ptsI s.data.toList).length ((ptsI s.data.toList).map (Value.int .i64)) else v = .slice none 0 0)
set_option maxRecDepth 100000 in
set_option maxHeartbeats 400000 in
theorem points_any (s : ByteArray) (hs : s.size ≤ 4294967296) (w : World) :
    Calls Tryd.prog 38 #[.string s] w (PointsPost s w) := by
  obtain ⟨i0, hi, hz0, hz1, hz2⟩ := info_parts int_info
  go_enter Tryd.func38, Tryd.ntmps38
  go_wp2
  go_loopw [2, 4] (fun v i wr => ∃ (k : Nat) (acc : List Int), k ≤ s.size ∧ i = .int .i64 k ∧ wr.ownsRow w.heap.size 3 1 v acc.length (acc.map (Value.int .i64)) ∧ Below w.heap.size w wr ∧
      acc ++ ptsI (s.data.toList.drop k) = ptsI s.data.toList ∧ U.bad (s.data.toList.drop k) = U.bad s.data.toList) (fun _ i _ => s.size - (intOf i).toNat)
  case atStart => exact ⟨0, [], Nat.zero_le _, rfl, World.ownsRow_nil _ _ _ _, Below.refl _ _, rfl, rfl⟩
  case round =>
    obtain ⟨k, acc, hk, rfl, hown, hbel, hp, hb⟩ := hrel
    have Hb := Lib.hid hb
    have Hp := Lib.hid hp
    clear hb hp
    have hal := pts_len s k acc Hp.out
    have hsz := hbel.size
    by_cases hlt : k < s.size
    · obtain ⟨p, n, b, hd⟩ : ∃ p n b, U.dec (s.data.toList.drop k) = (p, n, b) := ⟨_, _, _, rfl⟩
      have Hd := Lib.hid hd
      clear hd
      cases b
      · have hx := Lib.hid (dec_bad s k p n Hd.out).2
        have hne := Lib.hid (show (U.bad s.data.toList).isEmpty = false by rw [← Hb.out, hx.out]; simpa using hlt)
        go_wp2_with ((go_at_call 51; (with_reducible refine (decode_at s k _ _ _ hs hlt Hd _).mono ?_); rintro e w' ⟨rfl, rfl⟩))
        go_ret2
        exact ⟨_, by rw [hne.out]; rfl, hbel, by rw [hne.out]; rfl⟩
      · obtain ⟨h1, h2, h3, h4, h5, h6, h7⟩ := dec_size s k p n Hd.out
        have h6 := Lib.hid h6
        have h7 := Lib.hid h7
        clear h4 h5
        go_wp2_with (first
          | (go_at_call 51; (with_reducible refine (decode_at s k _ _ _ hs hlt Hd _).mono ?_); rintro e w' ⟨rfl, rfl⟩)
          | (at_builtin; refine wpList_append_own _ rfl _ _ 26 rfl w.heap.size 3 i0 (.int .i64 0) 1 8 Tryd.underlying26 hi hz0 hz1 hz2 rfl (by decide) _ _ _ rfl (hown.alloc _) ⟨wr.heap.size, 0, none⟩ 1 1 [.int .i64 p] rfl rfl ?c1 ?c2 ?c3 ?c4 ?c5 ?_))
        case c1 =>
          intro j u hj
          match j, hj with
          | 0, hj => simp at hj; subst hj; simp [Addr.add]
        case c2 => intro u hu; simp at hu; subst hu; rfl
        case c3 => unfold maxLen; omega
        case c4 => omega
        case c5 => simp; omega
        intro v' w1 hown' hgrow _
        have R := rel_append hsz hown hbel hown' hgrow
        clear hown' hgrow hown hbel hi hz0 hz1 hz2
        go_wp2
        go_roundw
        case rel => exact ⟨k + n, acc ++ [(p : Int)], by omega, by go_num, by simpa using R.1, R.2, by rw [← Hp.out, List.append_assoc]; congr 1; unfold ptsI; rw [h6.out]; rfl, by rw [← h7.out]; exact Hb.out⟩
        case measure => simp [intOf]; omega
    · have hx := Lib.hid (drop_end s k (by omega))
      have hne := Lib.hid (show (U.bad s.data.toList).isEmpty = true by rw [← Hb.out, hx.out]; rfl)
      have hac := Lib.hid (show acc = ptsI s.data.toList by rw [← Hp.out, hx.out]; simp [ptsI, U.scan_nil.1])
      clear hi hz0 hz1 hz2
      go_wp2
      go_ret2
      exact ⟨_, by rw [hne.out]; rfl, hbel, by rw [hne.out, ← hac.out]; exact hown⟩
end Go.Proofs.YtdcdlmigagjbiaaDoor
/- The walks of Count, begins, Offset, Unit. -/
namespace Go.Proofs.YtdcdlmigagjbiaaDoor
open Go.RowKit
def isHead (c : UInt8) : Bool := !decide (128 ≤ c.toNat ∧ c.toNat < 192)
theorem u8_head (c : UInt8) : (bits .and .u8 (c.toNat : Int) 192 != 128) = isHead c := by
  unfold isHead; rw [← u8_cont]; rfl
def heads (l : List UInt8) : Nat := (l.filter isHead).length
theorem heads_snoc (s : ByteArray) (k : Nat) (hk : k < s.size) : heads (s.data.toList.take (k + 1)) = heads (s.data.toList.take k) + if isHead s[k] then 1 else 0 := by
  rw [List.take_succ_eq_append_getElem (by simpa using hk)]
  unfold heads
  rw [List.filter_append, List.length_append]
  congr 1
  show (List.filter isHead [s[k]]).length = _
  cases h : isHead s[k] <;> simp [h]
theorem heads_le (l : List UInt8) : heads l ≤ l.length := List.length_filter_le _ _
/-- what Count returns -/
def countP (l : List UInt8) : Nat × Nat := if (U.bad l).isEmpty then (heads l, 0) else (0, 12)
theorem ret_count {l : List UInt8} {a b : Nat} (h : countP l = (a, b)) : Ending.returned (.tuple #[.int .i64 a, .int .i64 b]) = .returned (.tuple #[.int .i64 (countP l).1, .int .i64 (countP l).2]) := by rw [h]
theorem valid_at (s : ByteArray) (b : Bool) (hs : s.size ≤ 4294967296) (h : Hid ((U.bad s.data.toList).isEmpty = b)) (w : World) :
    Calls Tryd.prog 23 #[.string s] w fun e w' => e = .returned (.bool b) ∧ w = w' := by
  have := valid_any s hs w
  rw [h.out] at this
  exact this
set_option maxRecDepth 100000 in
set_option maxHeartbeats 400000 in
theorem count_any (s : ByteArray) (hs : s.size ≤ 4294967296) (w : World) :
    Calls Tryd.prog 34 #[.string s] w fun e w' => e = .returned (.tuple #[.int .i64 (countP s.data.toList).1, .int .i64 (countP s.data.toList).2]) ∧ w = w' := by
  obtain ⟨b, hb⟩ : ∃ b, (U.bad s.data.toList).isEmpty = b := ⟨_, rfl⟩
  have Hb := Lib.hid hb
  clear hb
  cases b
  · have hx := Lib.hid (show countP s.data.toList = (0, 12) by unfold countP; rw [Hb.out]; rfl)
    go_enter Tryd.func34, Tryd.ntmps34
    go_wp2_with ((go_at_call 23; (with_reducible refine (valid_at s _ hs Hb _).mono ?_); rintro e w' ⟨rfl, rfl⟩))
    go_ret2
    exact ⟨ret_count (a := 0) (b := 12) hx.out, rfl⟩
  · have hx := Lib.hid (show countP s.data.toList = (heads s.data.toList, 0) by unfold countP; rw [Hb.out]; rfl)
    go_enter Tryd.func34, Tryd.ntmps34
    go_wp2_with ((go_at_call 23; (with_reducible refine (valid_at s _ hs Hb _).mono ?_); rintro e w' ⟨rfl, rfl⟩))
    go_loop [2, 10] (fun n i => ∃ k : Nat, k ≤ s.size ∧ i = .int .i64 k ∧ n = .int .i64 (heads (s.data.toList.take k))) (fun _ i => s.size - (intOf i).toNat)
    case atStart => exact ⟨0, Nat.zero_le _, rfl, rfl⟩
    case round =>
      obtain ⟨k, hk, rfl, rfl⟩ := hrel
      have hl := heads_le (s.data.toList.take k)
      have hl' : heads (s.data.toList.take k) ≤ k := Nat.le_trans hl (List.length_take_le _ _)
      clear hl
      by_cases hlt : k < s.size
      · have hsn := Lib.hid (heads_snoc s k hlt)
        have hh := u8_head s[k]
        obtain ⟨c, hc⟩ : ∃ c, isHead s[k] = c := ⟨_, rfl⟩
        rw [hc] at hh
        have Hc := Lib.hid hc
        clear hc
        cases c
        · go_wp2
          go_round
          case rel => exact ⟨k + 1, by omega, by go_num, by rw [hsn.out, Hc.out]; rfl⟩
          case measure => simp [intOf]; omega
        · go_wp2
          go_round
          case rel => exact ⟨k + 1, by omega, by go_num, by rw [hsn.out, Hc.out]; rfl⟩
          case measure => simp [intOf]; omega
      · have hke : k = s.size := by omega
        have ht := Lib.hid (show s.data.toList.take k = s.data.toList from List.take_of_length_le (by simp; omega))
        clear hke
        go_wp2
        go_ret2
        exact ⟨ret_count (a := heads (s.data.toList.take k)) (b := 0) (by rw [ht.out]; exact hx.out), rfl⟩

def headPos : Nat → List UInt8 → List Nat
  | _, [] => []
  | i, c :: r => if isHead c then i :: headPos (i + 1) r else headPos (i + 1) r
theorem headPos_snoc (l : List UInt8) (c : UInt8) : ∀ i, headPos i (l ++ [c]) = headPos i l ++ if isHead c then [i + l.length] else [] := by
  induction l with
  | nil => intro i; simp only [List.nil_append, headPos]; cases isHead c <;> simp
  | cons d l ih =>
    intro i
    simp only [List.cons_append, headPos, ih]
    rw [List.length_cons, show i + 1 + l.length = i + (l.length + 1) from by omega]
    cases isHead d <;> simp
theorem headPos_len (l : List UInt8) : ∀ i, (headPos i l).length ≤ l.length := by
  induction l with
  | nil => intro i; simp [headPos]
  | cons d l ih =>
    intro i
    simp only [headPos]
    have := ih (i + 1)
    cases isHead d <;> simp <;> omega
def posI (l : List UInt8) : List Int := (headPos 0 l).map fun p => ((p : Nat) : Int)
theorem posI_snoc (s : ByteArray) (k : Nat) (hk : k < s.size) : posI (s.data.toList.take (k + 1)) = posI (s.data.toList.take k) ++ if isHead s[k] then [(k : Int)] else [] := by
  rw [List.take_succ_eq_append_getElem (by simpa using hk)]
  unfold posI
  show (headPos 0 (List.take k s.data.toList ++ [s[k]])).map _ = _
  rw [headPos_snoc]
  have : (List.take k s.data.toList).length = k := by rw [List.length_take]; simp; omega
  rw [this, Nat.zero_add]
  cases isHead s[k] <;> simp
theorem posI_len (s : ByteArray) (k : Nat) : (posI (s.data.toList.take k)).length ≤ k := by
  have := headPos_len (s.data.toList.take k) 0
  have h2 := List.length_take_le k s.data.toList
  unfold posI; rw [List.length_map]; omega
/-- what begins returns -/
def beginsP (l : List UInt8) : List Int := posI l ++ [(l.length : Int)]
def BeginsPost (s : ByteArray) (w : World) (e : Ending) (w' : World) : Prop :=
  ∃ v, e = .returned v ∧ Below w.heap.size w w' ∧ w'.ownsRow w.heap.size 3 1 v (beginsP s.data.toList).length ((beginsP s.data.toList).map (Value.int .i64))
set_option maxRecDepth 100000 in
set_option maxHeartbeats 800000 in
theorem begins_any (s : ByteArray) (hs : s.size ≤ 4294967296) (w : World) :
    Calls Tryd.prog 49 #[.string s] w (BeginsPost s w) := by
  obtain ⟨i0, hi, hz0, hz1, hz2⟩ := info_parts int_info
  go_enter Tryd.func49, Tryd.ntmps49
  go_wp2
  go_loopw [3, 7] (fun v i wr => ∃ k : Nat, k ≤ s.size ∧ i = .int .i64 k ∧ wr.ownsRow w.heap.size 3 1 v (posI (s.data.toList.take k)).length ((posI (s.data.toList.take k)).map (Value.int .i64)) ∧ Below w.heap.size w wr) (fun _ i _ => s.size - (intOf i).toNat)
  case atStart => exact ⟨0, Nat.zero_le _, rfl, World.ownsRow_nil _ _ _ _, Below.refl _ _⟩
  case round =>
    obtain ⟨k, hk, rfl, hown, hbel⟩ := hrel
    have hal := posI_len s k
    have hsz := hbel.size
    by_cases hlt : k < s.size
    · have hsn := Lib.hid (posI_snoc s k hlt)
      have hh := u8_head s[k]
      obtain ⟨c, hc⟩ : ∃ c, isHead s[k] = c := ⟨_, rfl⟩
      rw [hc] at hh
      have Hc := Lib.hid hc
      clear hc
      cases c
      · go_wp2
        go_roundw
        case rel =>
          refine ⟨k + 1, by omega, by go_num, ?_, hbel⟩
          rw [hsn.out, Hc.out]
          simpa using hown
        case measure => simp [intOf]; omega
      · go_wp2_with ((at_builtin; refine wpList_append_own _ rfl _ _ 26 rfl w.heap.size 3 i0 (.int .i64 0) 1 8 Tryd.underlying26 hi hz0 hz1 hz2 rfl (by decide) _ _ _ rfl (hown.alloc _) ⟨wr.heap.size, 0, none⟩ 1 1 [.int .i64 k] rfl rfl ?c1 ?c2 ?c3 ?c4 ?c5 ?_))
        case c1 =>
          intro j u hj
          match j, hj with
          | 0, hj => simp at hj; subst hj; simp [Addr.add]
        case c2 => intro u hu; simp at hu; subst hu; rfl
        case c3 => unfold maxLen; omega
        case c4 => omega
        case c5 => simp; omega
        intro v' w1 hown' hgrow _
        have R := rel_append hsz hown hbel hown' hgrow
        clear hown' hgrow hown hbel hi hz0 hz1 hz2
        go_wp2
        go_roundw
        case rel =>
          refine ⟨k + 1, by omega, by go_num, ?_, R.2⟩
          rw [hsn.out, Hc.out]
          simpa using R.1
        case measure => simp [intOf]; omega
    · have ht := Lib.hid (show s.data.toList.take k = s.data.toList from List.take_of_length_le (by simp; omega))
      have hpe := Lib.hid (show beginsP s.data.toList = posI (s.data.toList.take k) ++ [(s.size : Int)] by unfold beginsP; rw [ht.out]; simp)
      clear ht
      go_wp2_with ((at_builtin; refine wpList_append_own _ rfl _ _ 26 rfl w.heap.size 3 i0 (.int .i64 0) 1 8 Tryd.underlying26 hi hz0 hz1 hz2 rfl (by decide) _ _ _ rfl (hown.alloc _) ⟨wr.heap.size, 0, none⟩ 1 1 [.int .i64 s.size] rfl rfl ?d1 ?d2 ?d3 ?d4 ?d5 ?_))
      case d1 =>
        intro j u hj
        match j, hj with
        | 0, hj => simp at hj; subst hj; simp [Addr.add]
      case d2 => intro u hu; simp at hu; subst hu; rfl
      case d3 => unfold maxLen; omega
      case d4 => omega
      case d5 => simp; omega
      intro v' w1 hown' hgrow _
      have R := rel_append hsz hown hbel hown' hgrow
      clear hown' hgrow hown hbel hi hz0 hz1 hz2
      go_wp2
      go_ret
      exact ⟨_, rfl, R.2, by rw [hpe.out]; simpa using R.1⟩
end Go.Proofs.YtdcdlmigagjbiaaDoor
/- The guide's contracts of strings.Builder (WriteString, String) and of strings.Clone at this program's numbers. -/
namespace Go.Proofs.YtdcdlmigagjbiaaDoor
open Go.RowKit Go.Shelf
theorem u8_info : (Tryd.prog.info? 5).map (fun i => (i.zero, i.size, i.bytes)) = some (some (.int .u8 0), 1, 1) := by kernel_rfl
def ren166 : Go.Shelf.Ren := ⟨fun | 166 => 42 | 240 => 53 | 276 => 59 | n => n, fun | 0 => 0 | 3 => 3 | 4 => 4 | 5 => 5 | 9 => 9 | 20 => 20 | 37 => 76 | 70 => 75 | 72 => 78 | 75 => 80 | 80 => 85 | 164 => 98 | n => n, fun | n => n⟩
theorem lays166 : Go.Proofs.Lays.n166 Tryd.prog ren166 := {
  mixed := by kernel_rfl
  f166 := Tryd.func42.trans (congrArg some (by kernel_rfl))
  f240 := Tryd.func53.trans (congrArg some (by kernel_rfl))
  f276 := Tryd.func59.trans (congrArg some (by kernel_rfl))
  t0 := Tryd.underlying0
  a0 := Tryd.isAgg0
  z0 := Tryd.sizeOf0
  v0 := Tryd.zeroValue0
  t3 := Tryd.underlying3
  a3 := Tryd.isAgg3
  z3 := Tryd.sizeOf3
  v3 := Tryd.zeroValue3
  t4 := Tryd.underlying4
  a4 := Tryd.isAgg4
  z4 := Tryd.sizeOf4
  v4 := Tryd.zeroValue4
  t9 := Tryd.underlying9
  a9 := Tryd.isAgg9
  z9 := Tryd.sizeOf9
  v9 := Tryd.zeroValue9
  t20 := Tryd.underlying20
  a20 := Tryd.isAgg20
  z20 := Tryd.sizeOf20
  v20 := Tryd.zeroValue20
  t37 := Tryd.underlying76
  a37 := Tryd.isAgg76
  z37 := Tryd.sizeOf76
  v37 := Tryd.zeroValue76
  t70 := Tryd.underlying75
  a70 := Tryd.isAgg75
  z70 := Tryd.sizeOf75
  v70 := Tryd.zeroValue75
  t72 := Tryd.underlying78
  a72 := Tryd.isAgg78
  z72 := Tryd.sizeOf78
  v72 := Tryd.zeroValue78
  t75 := Tryd.underlying80
  a75 := Tryd.isAgg80
  z75 := Tryd.sizeOf80
  v75 := Tryd.zeroValue80
  t164 := Tryd.underlying98
  a164 := Tryd.isAgg98
  z164 := Tryd.sizeOf98
  v164 := Tryd.zeroValue98
}
theorem extra166 : Builder.Extra Tryd.prog ren166 := {
  sizeBuilder := by kernel_rfl
  liesBuilder := by kernel_rfl
  t5 := Tryd.underlying5
  a5 := Tryd.isAgg5
  z5 := Tryd.sizeOf5
  v5 := Tryd.zeroValue5
  infoByte := by kernel_rfl
  cellsByte := by kernel_rfl
  sizeByte := by kernel_rfl
  neB5 := by decide }
def ren169 : Go.Shelf.Ren := ⟨fun | 169 => 43 | n => n, fun | 0 => 0 | 3 => 3 | 5 => 5 | 9 => 9 | 37 => 76 | 70 => 75 | 72 => 78 | 127 => 92 | n => n, fun | n => n⟩
theorem lays169 : Go.Proofs.Lays.n169 Tryd.prog ren169 := {
  mixed := by kernel_rfl
  f169 := Tryd.func43.trans (congrArg some (by kernel_rfl))
  t0 := Tryd.underlying0
  a0 := Tryd.isAgg0
  z0 := Tryd.sizeOf0
  v0 := Tryd.zeroValue0
  t3 := Tryd.underlying3
  a3 := Tryd.isAgg3
  z3 := Tryd.sizeOf3
  v3 := Tryd.zeroValue3
  t9 := Tryd.underlying9
  a9 := Tryd.isAgg9
  z9 := Tryd.sizeOf9
  v9 := Tryd.zeroValue9
  t37 := Tryd.underlying76
  a37 := Tryd.isAgg76
  z37 := Tryd.sizeOf76
  v37 := Tryd.zeroValue76
  t70 := Tryd.underlying75
  a70 := Tryd.isAgg75
  z70 := Tryd.sizeOf75
  v70 := Tryd.zeroValue75
  t72 := Tryd.underlying78
  a72 := Tryd.isAgg78
  z72 := Tryd.sizeOf78
  v72 := Tryd.zeroValue78
  t127 := Tryd.underlying92
  a127 := Tryd.isAgg92
  z127 := Tryd.sizeOf92
  v127 := Tryd.zeroValue92
}
theorem extra169 : Builder.Extra Tryd.prog ren169 := {
  sizeBuilder := by kernel_rfl
  liesBuilder := by kernel_rfl
  t5 := Tryd.underlying5
  a5 := Tryd.isAgg5
  z5 := Tryd.sizeOf5
  v5 := Tryd.zeroValue5
  infoByte := by kernel_rfl
  cellsByte := by kernel_rfl
  sizeByte := by kernel_rfl
  neB5 := by decide }
def ren316 : Go.Shelf.Ren := ⟨fun | 316 => 50 | n => n, fun | 0 => 0 | 3 => 3 | 4 => 4 | 5 => 5 | 9 => 9 | 37 => 76 | 127 => 92 | n => n, fun | n => n⟩
theorem lays316 : Go.Proofs.LaysM.n316 Tryd.prog ren316 := {
  mixed := by kernel_rfl
  f316 := Tryd.func50.trans (congrArg some (by kernel_rfl))
  t0 := Tryd.underlying0
  a0 := Tryd.isAgg0
  z0 := Tryd.sizeOf0
  v0 := Tryd.zeroValue0
  t3 := Tryd.underlying3
  a3 := Tryd.isAgg3
  z3 := Tryd.sizeOf3
  v3 := Tryd.zeroValue3
  t4 := Tryd.underlying4
  a4 := Tryd.isAgg4
  z4 := Tryd.sizeOf4
  v4 := Tryd.zeroValue4
  t9 := Tryd.underlying9
  a9 := Tryd.isAgg9
  z9 := Tryd.sizeOf9
  v9 := Tryd.zeroValue9
  t37 := Tryd.underlying76
  a37 := Tryd.isAgg76
  z37 := Tryd.sizeOf76
  v37 := Tryd.zeroValue76
  t127 := Tryd.underlying92
  a127 := Tryd.isAgg92
  z127 := Tryd.sizeOf92
  v127 := Tryd.zeroValue92
  t5 := Tryd.underlying5
  a5 := Tryd.isAgg5
  z5 := Tryd.sizeOf5
  v5 := Tryd.zeroValue5
  i0 := by kernel_rfl
  i3 := by kernel_rfl
  i4 := by kernel_rfl
  i5 := by kernel_rfl
  i9 := by kernel_rfl
  i37 := by kernel_rfl
  i127 := by kernel_rfl
}
theorem writeString_any (B b : Nat) (bs : List Value) (s : ByteArray) (w : World) (h : Lib.IsBuilder 78 5 B b bs w) (hlen : bs.length + s.size ≤ 140737488355328) (hBw : B ≤ w.heap.size) :
    Calls Tryd.prog 42 #[.pointer (some ⟨b, 0, none⟩), .string s] w fun e w' => e = .returned (.tuple #[.int .i64 s.size, .nilIface]) ∧ (Lib.BuilderAt 78 5 B b (.pointer (some ⟨b, 0, none⟩)) (bs ++ Lib.strCells s) w' ∧ Below B w w') := Any.Builder_WriteString lays166 extra166 B b bs s w h hlen hBw
theorem string_any (B b : Nat) (l : List UInt8) (w : World) (h : Lib.IsBuilder 78 5 B b (Lib.byteCells l) w) (hBw : B ≤ w.heap.size) :
    Calls Tryd.prog 43 #[.pointer (some ⟨b, 0, none⟩)] w fun e w' => e = .returned (.string ⟨l.toArray⟩) ∧ Below B w w' := Any.Builder_String_any lays169 extra169 B b l w h hBw
theorem liteClone_any (s : ByteArray) (w : World) (hlim : s.size ≤ 281474976710656) :
    Calls Tryd.prog 50 #[.string s] w fun e w' => e = .returned (.string s) ∧ Below w.heap.size w w' := Any.stringslite_Clone lays316 s w hlim
end Go.Proofs.YtdcdlmigagjbiaaDoor
