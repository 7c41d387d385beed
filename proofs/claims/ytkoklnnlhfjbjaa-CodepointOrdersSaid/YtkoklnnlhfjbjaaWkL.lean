/- The walk of the reference's Decode. -/
import Derived.Test.YtkoklnnlhfjbjaaWkK
import Derived.Test.YtkoklnnlhfjbjaaWkI
import Derived.Deep.RegionWith
import Derived.Deep.QuietTactic
import Derived.BigQuiet
namespace Go.Proofs.Ytkoklnnlhfjbjaa
open Go.RowKit
theorem ret_pair {t : Nat × Nat} {a b : Nat} (h : t = (a, b)) : Ending.returned (.tuple #[.int .i64 a, .int .i64 b]) = .returned (.tuple #[.int .i64 t.1, .int .i64 t.2]) := by rw [h]
theorem refIsPoint_at (p : Int) (b : Bool) (h : Hid (isPtI p = b)) (w : World) :
    Calls Try.prog 19 #[.int .i64 p] w fun e w' => e = .returned (.bool b) ∧ w = w' := by
  have := refIsPoint_any p w
  rw [h.out] at this
  exact this
theorem refIsPoint_at' (p : Int) (b : Bool) (h : Hid (isPtI p = b)) (w : World) :
    Calls Try.prog 19 #[.int .i64 p] w fun e w' => e = .returned (.bool b) ∧ w' = w :=
  (refIsPoint_at p b h w).mono fun _ _ ⟨h1, h2⟩ => ⟨h1, h2.symm⟩
theorem isPtI_nat (p : Nat) : isPtI (p : Int) = U.isPt p := by unfold isPtI; simp
theorem rs_cases (b : Nat) : b < 128 ∨ (128 ≤ b ∧ b < 192 ∧ U.rsize b = 0) ∨ (248 ≤ b ∧ U.rsize b = 0) ∨ (192 ≤ b ∧ b < 224 ∧ U.rsize b = 2 ∧ U.rlead b = b - 192) ∨ (224 ≤ b ∧ b < 240 ∧ U.rsize b = 3 ∧ U.rlead b = b - 224) ∨ (240 ≤ b ∧ b < 248 ∧ U.rsize b = 4 ∧ U.rlead b = b - 240) := by
  by_cases h1 : b < 128
  · exact Or.inl h1
  by_cases h2 : b < 192
  · exact Or.inr (Or.inl ⟨by omega, h2, by unfold U.rsize; (repeat' split) <;> omega⟩)
  by_cases h3 : 248 ≤ b
  · exact Or.inr (Or.inr (Or.inl ⟨h3, by unfold U.rsize; (repeat' split) <;> omega⟩))
  by_cases h4 : b < 224
  · exact Or.inr (Or.inr (Or.inr (Or.inl ⟨by omega, h4, by unfold U.rsize; (repeat' split) <;> omega, by unfold U.rlead; (repeat' split) <;> omega⟩)))
  by_cases h5 : b < 240
  · exact Or.inr (Or.inr (Or.inr (Or.inr (Or.inl ⟨by omega, h5, by unfold U.rsize; (repeat' split) <;> omega, by unfold U.rlead; (repeat' split) <;> omega⟩))))
  · exact Or.inr (Or.inr (Or.inr (Or.inr (Or.inr ⟨by omega, by omega, by unfold U.rsize; (repeat' split) <;> omega, by unfold U.rlead; (repeat' split) <;> omega⟩))))
theorem decR_first (b : UInt8) (r : List UInt8) (h : ¬ b.toNat < 128) (h0 : U.rsize b.toNat ≠ 0) (hl : U.rsize b.toNat ≤ r.length + 1) : U.decR (b :: r) = U.rfin (b :: r) (U.rsize b.toNat) (U.rgo (U.rsize b.toNat - 1) (U.rlead b.toNat) r) := by
  simp only [U.decR]; rw [if_neg h, if_neg h0, if_neg (by omega)]
theorem decR_short (b : UInt8) (r : List UInt8) (h : ¬ b.toNat < 128) (h0 : U.rsize b.toNat = 0 ∨ r.length + 1 < U.rsize b.toNat) : U.decR (b :: r) = (0, 0) := by
  simp only [U.decR]; rw [if_neg h]
  rcases h0 with h0 | h0
  · rw [if_pos h0]
  · by_cases h1 : U.rsize b.toNat = 0
    · rw [if_pos h1]
    · rw [if_neg h1, if_pos h0]
theorem rgo_in (k p : Nat) (c : UInt8) (r : List UInt8) (h : ¬ (c.toNat < 128 ∨ 191 < c.toNat)) : U.rgo (k + 1) p (c :: r) = U.rgo k (p * 64 + c.toNat - 128) r := by
  simp only [U.rgo]; rw [if_neg h]
theorem rgo_out (k p : Nat) (c : UInt8) (r : List UInt8) (h : c.toNat < 128 ∨ 191 < c.toNat) : U.rgo (k + 1) p (c :: r) = none := by
  simp only [U.rgo]; rw [if_pos h]
def RDecPost (l : List UInt8) (w : World) (e : Ending) (w' : World) : Prop :=
  e = .returned (.tuple #[.int .i64 (U.decR l).1, .int .i64 (U.decR l).2]) ∧ Below w.heap.size w w'
set_option maxRecDepth 100000 in
set_option maxHeartbeats 2000000 in
theorem rdec_nil (s : ByteArray) (_hs : s.size ≤ 4294967296) (w : World) (h0 : s.size = 0) :
    Calls Try.prog 26 #[.string s] w (RDecPost s.data.toList w) := by
  have hx := Lib.hid (show U.decR s.data.toList = (0, 0) by have : s.data.toList = [] := drop_end s 0 (by omega); rw [this]; rfl)
  go_enter Try.func26, Try.ntmps26
  go_wp2
  go_ret2
  exact ⟨ret_pair (a := 0) (b := 0) hx.out, Below.refl _ _⟩
set_option maxRecDepth 100000 in
set_option maxHeartbeats 2000000 in
theorem rdec_one (s : ByteArray) (_hs : s.size ≤ 4294967296) (w : World) (h0 : 0 < s.size) (hb : s[0].toNat < 256) (hz : ((s.size : Int) == 0) = false) (hd : Hid (s.data.toList = s[0] :: s.data.toList.drop 1)) (h : s[0].toNat < 128) :
    Calls Try.prog 26 #[.string s] w (RDecPost s.data.toList w) := by
  have hx := Lib.hid (show U.decR s.data.toList = (s[0].toNat, 1) by rw [hd.out]; simp only [U.decR]; rw [if_pos h])
  go_enter Try.func26, Try.ntmps26
  go_wp2
  go_ret2
  exact ⟨ret_pair (a := s[0].toNat) (b := 1) hx.out, Below.refl _ _⟩
set_option maxRecDepth 100000 in
set_option maxHeartbeats 2000000 in
theorem rdec_zero (s : ByteArray) (_hs : s.size ≤ 4294967296) (w : World) (h0 : 0 < s.size) (hb : s[0].toNat < 256) (hz : ((s.size : Int) == 0) = false) (hd : Hid (s.data.toList = s[0] :: s.data.toList.drop 1)) (h : (128 ≤ s[0].toNat ∧ s[0].toNat < 192) ∨ 248 ≤ s[0].toNat) (hr : Hid (U.rsize s[0].toNat = 0)) :
    Calls Try.prog 26 #[.string s] w (RDecPost s.data.toList w) := by
  have hx := Lib.hid (show U.decR s.data.toList = (0, 0) by rw [hd.out]; exact decR_short _ _ (by omega) (Or.inl hr.out))
  rcases h with ⟨h, h'⟩ | h
  all_goals
    go_enter Try.func26, Try.ntmps26
    go_wp2
    go_ret2
    exact ⟨ret_pair (a := 0) (b := 0) hx.out, Below.refl _ _⟩
set_option maxRecDepth 100000 in
set_option maxHeartbeats 2000000 in
theorem rdec_short2 (s : ByteArray) (hs : s.size ≤ 4294967296) (w : World) (h0 : 0 < s.size) (hb : s[0].toNat < 256) (hz : ((s.size : Int) == 0) = false) (hd : Hid (s.data.toList = s[0] :: s.data.toList.drop 1)) (h : 192 ≤ s[0].toNat) (h' : s[0].toNat < 224) (hr : Hid (U.rsize s[0].toNat = 2)) (_hl : Hid (U.rlead s[0].toNat = s[0].toNat - 192)) (hsh : s.size < 2) :
    Calls Try.prog 26 #[.string s] w (RDecPost s.data.toList w) := by
  have hx := Lib.hid (show U.decR s.data.toList = (0, 0) by rw [hd.out]; exact decR_short _ _ (by omega) (Or.inr (by rw [hr.out, List.length_drop]; simp; omega)))
  go_enter Try.func26, Try.ntmps26
  go_wp2
  go_ret2
  exact ⟨ret_pair (a := 0) (b := 0) hx.out, Below.refl _ _⟩
set_option maxRecDepth 100000 in
set_option maxHeartbeats 2000000 in
theorem rdec_go2 (s : ByteArray) (hs : s.size ≤ 4294967296) (w : World) (h0 : 0 < s.size) (hb : s[0].toNat < 256) (hz : ((s.size : Int) == 0) = false) (hd : Hid (s.data.toList = s[0] :: s.data.toList.drop 1)) (h : 192 ≤ s[0].toNat) (h' : s[0].toNat < 224) (hr : Hid (U.rsize s[0].toNat = 2)) (hl : Hid (U.rlead s[0].toNat = s[0].toNat - 192)) (hsh : 2 ≤ s.size) :
    Calls Try.prog 26 #[.string s] w (RDecPost s.data.toList w) := by
  have hx := Lib.hid (show U.decR s.data.toList = U.rfin s.data.toList 2 (U.rgo (2 - 1) (U.rlead s[0].toNat) (s.data.toList.drop 1)) by
    rw [hd.out, decR_first _ _ (by omega) (by rw [hr.out]; omega) (by rw [hr.out, List.length_drop]; simp; omega), hr.out]; simp)
  have d1 : decide ((s[0].toNat : Int) < 128) = false := decide_eq_false (by omega)
  have d2 : decide ((s[0].toNat : Int) < 224) = true := by exact decide_eq_true (by omega)
  have d3 : decide ((s[0].toNat : Int) < 240) = true := by exact decide_eq_true (by omega)
  have d4 : decide ((s[0].toNat : Int) < 248) = true := decide_eq_true (by omega)
  have d5 : decide ((s.size : Int) < 2) = false := decide_eq_false (by omega)
  have d6 : decide ((192 : Int) ≤ s[0].toNat) = true := decide_eq_true (by omega)
  have d7 : decide ((224 : Int) ≤ s[0].toNat) = false := by exact decide_eq_false (by omega)
  have d8 : decide ((240 : Int) ≤ s[0].toNat) = false := by exact decide_eq_false (by omega)
  go_enter Try.func26, Try.ntmps26
  go_wp2
  go_loop [5, 7] (fun p i => ∃ (P I : Nat), p = .int .i64 P ∧ i = .int .i64 I ∧ 1 ≤ I ∧ I ≤ 2 ∧ P < 64 ^ I ∧ U.rgo (2 - I) P (s.data.toList.drop I) = U.rgo (2 - 1) (U.rlead s[0].toNat) (s.data.toList.drop 1)) (fun _ i => 2 - (intOf i).toNat)
  case atStart =>
    refine ⟨s[0].toNat - 192, 1, congrArg (Value.int .i64) (by omega), rfl, by omega, by omega, by omega, by rw [hl.out]⟩
  case round =>
    obtain ⟨P, I, rfl, rfl, h1, h2, hP, hgo⟩ := hrel
    have Hgo := Lib.hid hgo
    have HP := Lib.hid hP
    clear hgo hP
    have hP4 : P < 16777216 := by have : (64 : Nat) ^ I ≤ 64 ^ 4 := Nat.pow_le_pow_right (by omega) (by omega); have := HP.out; omega
    clear h h'
    by_cases hzz : I < 2
    · have e1 := Lib.hid (show 2 - I = (2 - I - 1) + 1 by omega)
      have hend : I < s.size := by omega
      have hc := UInt8.toNat_lt s[I]
      have hdc := Lib.hid (drop_cons s I hend)
      by_cases hin : s[I].toNat < 128 ∨ 191 < s[I].toNat
      · have hx := Lib.hid (show U.decR s.data.toList = (0, 0) by rw [hx.out, ← Hgo.out, e1.out, hdc.out, rgo_out _ _ _ _ hin]; rfl)
        rcases (by omega : s[I].toNat < 128 ∨ (128 ≤ s[I].toNat ∧ 191 < s[I].toNat)) with hin | ⟨hin, hin'⟩
        all_goals
          go_wp2
          go_ret2
          exact ⟨ret_pair (a := 0) (b := 0) hx.out, Below.refl _ _⟩
      · have hi1 : 128 ≤ s[I].toNat := by omega
        have hi2 : s[I].toNat ≤ 191 := by omega
        clear hin
        go_wp2
        go_round
        case rel =>
          refine ⟨P * 64 + s[I].toNat - 128, I + 1, congrArg (Value.int .i64) (by omega), by go_num, by omega, by omega, ?_, ?_⟩
          · have := HP.out; rw [Nat.pow_succ]; omega
          · rw [← Hgo.out, e1.out, hdc.out, rgo_in _ _ _ _ (by omega)]; rfl
        case measure => simp [intOf]; omega
    · have hx := Lib.hid (show U.decR s.data.toList = U.rfin s.data.toList 2 (some P) by rw [hx.out, ← Hgo.out, show 2 - I = 0 by omega]; rfl)
      have hI : 2 ≤ I := by omega
      clear hzz
      obtain ⟨c, hp⟩ : ∃ c, U.isPt P = c := ⟨_, rfl⟩
      have Hp := Lib.hid (show isPtI (P : Int) = c by rw [isPtI_nat]; exact hp)
      have Hp2 := Lib.hid hp
      clear hp
      cases c
      · have hx := Lib.hid (show U.decR s.data.toList = (0, 0) by rw [hx.out]; simp [U.rfin, Hp2.out])
        go_wp2
        go_quiet ((go_at_call 19; exact Calls.quiet_of_same (refIsPoint_at' _ _ Hp _)))
        go_wp2
        go_ret2
        exact ⟨ret_pair (a := 0) (b := 0) hx.out, below_drewN (Below.refl _ _) _⟩
      · obtain ⟨q, hq⟩ : ∃ q, (U.enc P == (s.extract 0 2).toList) = q := ⟨_, rfl⟩
        have hq2 := Lib.hid (show (U.enc P == s.data.toList.take 2) = q by rw [← hq, Lib.toList_data, extract_take])
        cases q
        · have hx := Lib.hid (show U.decR s.data.toList = (0, 0) by rw [hx.out]; simp only [U.rfin]; rw [if_neg (fun h => by have := beq_eq_false_iff_ne.1 hq2.out; exact this h.2)])
          go_wp2
          go_region_with (first
            | (go_at_call 19; (with_reducible refine (refIsPoint_at _ _ Hp _).mono ?_); rintro e w' ⟨rfl, rfl⟩)
            | (go_at_call 41; (with_reducible refine (rencode_any P Hp2.out _).mono ?_); rintro e w' ⟨rfl, hb⟩))
          all_goals
            go_wp2
            go_ret2
            exact ⟨ret_pair (a := 0) (b := 0) hx.out, (Below.refl _ _).drew.trans hb⟩
        · have hx := Lib.hid (show U.decR s.data.toList = (P, 2) by rw [hx.out]; simp only [U.rfin]; rw [if_pos ⟨Hp2.out, beq_iff_eq.1 hq2.out⟩])
          go_wp2
          go_region_with (first
            | (go_at_call 19; (with_reducible refine (refIsPoint_at _ _ Hp _).mono ?_); rintro e w' ⟨rfl, rfl⟩)
            | (go_at_call 41; (with_reducible refine (rencode_any P Hp2.out _).mono ?_); rintro e w' ⟨rfl, hb⟩))
          all_goals
            go_wp2
            go_ret2
            exact ⟨ret_pair (a := P) (b := 2) hx.out, (Below.refl _ _).drew.trans hb⟩
set_option maxRecDepth 100000 in
set_option maxHeartbeats 2000000 in
theorem rdec_short3 (s : ByteArray) (hs : s.size ≤ 4294967296) (w : World) (h0 : 0 < s.size) (hb : s[0].toNat < 256) (hz : ((s.size : Int) == 0) = false) (hd : Hid (s.data.toList = s[0] :: s.data.toList.drop 1)) (h : 224 ≤ s[0].toNat) (h' : s[0].toNat < 240) (hr : Hid (U.rsize s[0].toNat = 3)) (_hl : Hid (U.rlead s[0].toNat = s[0].toNat - 224)) (hsh : s.size < 3) :
    Calls Try.prog 26 #[.string s] w (RDecPost s.data.toList w) := by
  have hx := Lib.hid (show U.decR s.data.toList = (0, 0) by rw [hd.out]; exact decR_short _ _ (by omega) (Or.inr (by rw [hr.out, List.length_drop]; simp; omega)))
  go_enter Try.func26, Try.ntmps26
  go_wp2
  go_ret2
  exact ⟨ret_pair (a := 0) (b := 0) hx.out, Below.refl _ _⟩
set_option maxRecDepth 100000 in
set_option maxHeartbeats 2000000 in
theorem rdec_go3 (s : ByteArray) (hs : s.size ≤ 4294967296) (w : World) (h0 : 0 < s.size) (hb : s[0].toNat < 256) (hz : ((s.size : Int) == 0) = false) (hd : Hid (s.data.toList = s[0] :: s.data.toList.drop 1)) (h : 224 ≤ s[0].toNat) (h' : s[0].toNat < 240) (hr : Hid (U.rsize s[0].toNat = 3)) (hl : Hid (U.rlead s[0].toNat = s[0].toNat - 224)) (hsh : 3 ≤ s.size) :
    Calls Try.prog 26 #[.string s] w (RDecPost s.data.toList w) := by
  have hx := Lib.hid (show U.decR s.data.toList = U.rfin s.data.toList 3 (U.rgo (3 - 1) (U.rlead s[0].toNat) (s.data.toList.drop 1)) by
    rw [hd.out, decR_first _ _ (by omega) (by rw [hr.out]; omega) (by rw [hr.out, List.length_drop]; simp; omega), hr.out]; simp)
  have d1 : decide ((s[0].toNat : Int) < 128) = false := decide_eq_false (by omega)
  have d2 : decide ((s[0].toNat : Int) < 224) = false := by exact decide_eq_false (by omega)
  have d3 : decide ((s[0].toNat : Int) < 240) = true := by exact decide_eq_true (by omega)
  have d4 : decide ((s[0].toNat : Int) < 248) = true := decide_eq_true (by omega)
  have d5 : decide ((s.size : Int) < 3) = false := decide_eq_false (by omega)
  have d6 : decide ((192 : Int) ≤ s[0].toNat) = true := decide_eq_true (by omega)
  have d7 : decide ((224 : Int) ≤ s[0].toNat) = true := by exact decide_eq_true (by omega)
  have d8 : decide ((240 : Int) ≤ s[0].toNat) = false := by exact decide_eq_false (by omega)
  go_enter Try.func26, Try.ntmps26
  go_wp2
  go_loop [5, 7] (fun p i => ∃ (P I : Nat), p = .int .i64 P ∧ i = .int .i64 I ∧ 1 ≤ I ∧ I ≤ 3 ∧ P < 64 ^ I ∧ U.rgo (3 - I) P (s.data.toList.drop I) = U.rgo (3 - 1) (U.rlead s[0].toNat) (s.data.toList.drop 1)) (fun _ i => 3 - (intOf i).toNat)
  case atStart =>
    refine ⟨s[0].toNat - 224, 1, congrArg (Value.int .i64) (by omega), rfl, by omega, by omega, by omega, by rw [hl.out]⟩
  case round =>
    obtain ⟨P, I, rfl, rfl, h1, h2, hP, hgo⟩ := hrel
    have Hgo := Lib.hid hgo
    have HP := Lib.hid hP
    clear hgo hP
    have hP4 : P < 16777216 := by have : (64 : Nat) ^ I ≤ 64 ^ 4 := Nat.pow_le_pow_right (by omega) (by omega); have := HP.out; omega
    clear h h'
    by_cases hzz : I < 3
    · have e1 := Lib.hid (show 3 - I = (3 - I - 1) + 1 by omega)
      have hend : I < s.size := by omega
      have hc := UInt8.toNat_lt s[I]
      have hdc := Lib.hid (drop_cons s I hend)
      by_cases hin : s[I].toNat < 128 ∨ 191 < s[I].toNat
      · have hx := Lib.hid (show U.decR s.data.toList = (0, 0) by rw [hx.out, ← Hgo.out, e1.out, hdc.out, rgo_out _ _ _ _ hin]; rfl)
        rcases (by omega : s[I].toNat < 128 ∨ (128 ≤ s[I].toNat ∧ 191 < s[I].toNat)) with hin | ⟨hin, hin'⟩
        all_goals
          go_wp2
          go_ret2
          exact ⟨ret_pair (a := 0) (b := 0) hx.out, Below.refl _ _⟩
      · have hi1 : 128 ≤ s[I].toNat := by omega
        have hi2 : s[I].toNat ≤ 191 := by omega
        clear hin
        go_wp2
        go_round
        case rel =>
          refine ⟨P * 64 + s[I].toNat - 128, I + 1, congrArg (Value.int .i64) (by omega), by go_num, by omega, by omega, ?_, ?_⟩
          · have := HP.out; rw [Nat.pow_succ]; omega
          · rw [← Hgo.out, e1.out, hdc.out, rgo_in _ _ _ _ (by omega)]; rfl
        case measure => simp [intOf]; omega
    · have hx := Lib.hid (show U.decR s.data.toList = U.rfin s.data.toList 3 (some P) by rw [hx.out, ← Hgo.out, show 3 - I = 0 by omega]; rfl)
      have hI : 3 ≤ I := by omega
      clear hzz
      obtain ⟨c, hp⟩ : ∃ c, U.isPt P = c := ⟨_, rfl⟩
      have Hp := Lib.hid (show isPtI (P : Int) = c by rw [isPtI_nat]; exact hp)
      have Hp2 := Lib.hid hp
      clear hp
      cases c
      · have hx := Lib.hid (show U.decR s.data.toList = (0, 0) by rw [hx.out]; simp [U.rfin, Hp2.out])
        go_wp2
        go_quiet ((go_at_call 19; exact Calls.quiet_of_same (refIsPoint_at' _ _ Hp _)))
        go_wp2
        go_ret2
        exact ⟨ret_pair (a := 0) (b := 0) hx.out, below_drewN (Below.refl _ _) _⟩
      · obtain ⟨q, hq⟩ : ∃ q, (U.enc P == (s.extract 0 3).toList) = q := ⟨_, rfl⟩
        have hq2 := Lib.hid (show (U.enc P == s.data.toList.take 3) = q by rw [← hq, Lib.toList_data, extract_take])
        cases q
        · have hx := Lib.hid (show U.decR s.data.toList = (0, 0) by rw [hx.out]; simp only [U.rfin]; rw [if_neg (fun h => by have := beq_eq_false_iff_ne.1 hq2.out; exact this h.2)])
          go_wp2
          go_region_with (first
            | (go_at_call 19; (with_reducible refine (refIsPoint_at _ _ Hp _).mono ?_); rintro e w' ⟨rfl, rfl⟩)
            | (go_at_call 41; (with_reducible refine (rencode_any P Hp2.out _).mono ?_); rintro e w' ⟨rfl, hb⟩))
          all_goals
            go_wp2
            go_ret2
            exact ⟨ret_pair (a := 0) (b := 0) hx.out, (Below.refl _ _).drew.trans hb⟩
        · have hx := Lib.hid (show U.decR s.data.toList = (P, 3) by rw [hx.out]; simp only [U.rfin]; rw [if_pos ⟨Hp2.out, beq_iff_eq.1 hq2.out⟩])
          go_wp2
          go_region_with (first
            | (go_at_call 19; (with_reducible refine (refIsPoint_at _ _ Hp _).mono ?_); rintro e w' ⟨rfl, rfl⟩)
            | (go_at_call 41; (with_reducible refine (rencode_any P Hp2.out _).mono ?_); rintro e w' ⟨rfl, hb⟩))
          all_goals
            go_wp2
            go_ret2
            exact ⟨ret_pair (a := P) (b := 3) hx.out, (Below.refl _ _).drew.trans hb⟩
set_option maxRecDepth 100000 in
set_option maxHeartbeats 2000000 in
theorem rdec_short4 (s : ByteArray) (hs : s.size ≤ 4294967296) (w : World) (h0 : 0 < s.size) (hb : s[0].toNat < 256) (hz : ((s.size : Int) == 0) = false) (hd : Hid (s.data.toList = s[0] :: s.data.toList.drop 1)) (h : 240 ≤ s[0].toNat) (h' : s[0].toNat < 248) (hr : Hid (U.rsize s[0].toNat = 4)) (_hl : Hid (U.rlead s[0].toNat = s[0].toNat - 240)) (hsh : s.size < 4) :
    Calls Try.prog 26 #[.string s] w (RDecPost s.data.toList w) := by
  have hx := Lib.hid (show U.decR s.data.toList = (0, 0) by rw [hd.out]; exact decR_short _ _ (by omega) (Or.inr (by rw [hr.out, List.length_drop]; simp; omega)))
  go_enter Try.func26, Try.ntmps26
  go_wp2
  go_ret2
  exact ⟨ret_pair (a := 0) (b := 0) hx.out, Below.refl _ _⟩
set_option maxRecDepth 100000 in
set_option maxHeartbeats 2000000 in
theorem rdec_go4 (s : ByteArray) (hs : s.size ≤ 4294967296) (w : World) (h0 : 0 < s.size) (hb : s[0].toNat < 256) (hz : ((s.size : Int) == 0) = false) (hd : Hid (s.data.toList = s[0] :: s.data.toList.drop 1)) (h : 240 ≤ s[0].toNat) (h' : s[0].toNat < 248) (hr : Hid (U.rsize s[0].toNat = 4)) (hl : Hid (U.rlead s[0].toNat = s[0].toNat - 240)) (hsh : 4 ≤ s.size) :
    Calls Try.prog 26 #[.string s] w (RDecPost s.data.toList w) := by
  have hx := Lib.hid (show U.decR s.data.toList = U.rfin s.data.toList 4 (U.rgo (4 - 1) (U.rlead s[0].toNat) (s.data.toList.drop 1)) by
    rw [hd.out, decR_first _ _ (by omega) (by rw [hr.out]; omega) (by rw [hr.out, List.length_drop]; simp; omega), hr.out]; simp)
  have d1 : decide ((s[0].toNat : Int) < 128) = false := decide_eq_false (by omega)
  have d2 : decide ((s[0].toNat : Int) < 224) = false := by exact decide_eq_false (by omega)
  have d3 : decide ((s[0].toNat : Int) < 240) = false := by exact decide_eq_false (by omega)
  have d4 : decide ((s[0].toNat : Int) < 248) = true := decide_eq_true (by omega)
  have d5 : decide ((s.size : Int) < 4) = false := decide_eq_false (by omega)
  have d6 : decide ((192 : Int) ≤ s[0].toNat) = true := decide_eq_true (by omega)
  have d7 : decide ((224 : Int) ≤ s[0].toNat) = true := by exact decide_eq_true (by omega)
  have d8 : decide ((240 : Int) ≤ s[0].toNat) = true := by exact decide_eq_true (by omega)
  go_enter Try.func26, Try.ntmps26
  go_wp2
  go_loop [5, 7] (fun p i => ∃ (P I : Nat), p = .int .i64 P ∧ i = .int .i64 I ∧ 1 ≤ I ∧ I ≤ 4 ∧ P < 64 ^ I ∧ U.rgo (4 - I) P (s.data.toList.drop I) = U.rgo (4 - 1) (U.rlead s[0].toNat) (s.data.toList.drop 1)) (fun _ i => 4 - (intOf i).toNat)
  case atStart =>
    refine ⟨s[0].toNat - 240, 1, congrArg (Value.int .i64) (by omega), rfl, by omega, by omega, by omega, by rw [hl.out]⟩
  case round =>
    obtain ⟨P, I, rfl, rfl, h1, h2, hP, hgo⟩ := hrel
    have Hgo := Lib.hid hgo
    have HP := Lib.hid hP
    clear hgo hP
    have hP4 : P < 16777216 := by have : (64 : Nat) ^ I ≤ 64 ^ 4 := Nat.pow_le_pow_right (by omega) (by omega); have := HP.out; omega
    clear h h'
    by_cases hzz : I < 4
    · have e1 := Lib.hid (show 4 - I = (4 - I - 1) + 1 by omega)
      have hend : I < s.size := by omega
      have hc := UInt8.toNat_lt s[I]
      have hdc := Lib.hid (drop_cons s I hend)
      by_cases hin : s[I].toNat < 128 ∨ 191 < s[I].toNat
      · have hx := Lib.hid (show U.decR s.data.toList = (0, 0) by rw [hx.out, ← Hgo.out, e1.out, hdc.out, rgo_out _ _ _ _ hin]; rfl)
        rcases (by omega : s[I].toNat < 128 ∨ (128 ≤ s[I].toNat ∧ 191 < s[I].toNat)) with hin | ⟨hin, hin'⟩
        all_goals
          go_wp2
          go_ret2
          exact ⟨ret_pair (a := 0) (b := 0) hx.out, Below.refl _ _⟩
      · have hi1 : 128 ≤ s[I].toNat := by omega
        have hi2 : s[I].toNat ≤ 191 := by omega
        clear hin
        go_wp2
        go_round
        case rel =>
          refine ⟨P * 64 + s[I].toNat - 128, I + 1, congrArg (Value.int .i64) (by omega), by go_num, by omega, by omega, ?_, ?_⟩
          · have := HP.out; rw [Nat.pow_succ]; omega
          · rw [← Hgo.out, e1.out, hdc.out, rgo_in _ _ _ _ (by omega)]; rfl
        case measure => simp [intOf]; omega
    · have hx := Lib.hid (show U.decR s.data.toList = U.rfin s.data.toList 4 (some P) by rw [hx.out, ← Hgo.out, show 4 - I = 0 by omega]; rfl)
      have hI : 4 ≤ I := by omega
      clear hzz
      obtain ⟨c, hp⟩ : ∃ c, U.isPt P = c := ⟨_, rfl⟩
      have Hp := Lib.hid (show isPtI (P : Int) = c by rw [isPtI_nat]; exact hp)
      have Hp2 := Lib.hid hp
      clear hp
      cases c
      · have hx := Lib.hid (show U.decR s.data.toList = (0, 0) by rw [hx.out]; simp [U.rfin, Hp2.out])
        go_wp2
        go_quiet ((go_at_call 19; exact Calls.quiet_of_same (refIsPoint_at' _ _ Hp _)))
        go_wp2
        go_ret2
        exact ⟨ret_pair (a := 0) (b := 0) hx.out, below_drewN (Below.refl _ _) _⟩
      · obtain ⟨q, hq⟩ : ∃ q, (U.enc P == (s.extract 0 4).toList) = q := ⟨_, rfl⟩
        have hq2 := Lib.hid (show (U.enc P == s.data.toList.take 4) = q by rw [← hq, Lib.toList_data, extract_take])
        cases q
        · have hx := Lib.hid (show U.decR s.data.toList = (0, 0) by rw [hx.out]; simp only [U.rfin]; rw [if_neg (fun h => by have := beq_eq_false_iff_ne.1 hq2.out; exact this h.2)])
          go_wp2
          go_region_with (first
            | (go_at_call 19; (with_reducible refine (refIsPoint_at _ _ Hp _).mono ?_); rintro e w' ⟨rfl, rfl⟩)
            | (go_at_call 41; (with_reducible refine (rencode_any P Hp2.out _).mono ?_); rintro e w' ⟨rfl, hb⟩))
          all_goals
            go_wp2
            go_ret2
            exact ⟨ret_pair (a := 0) (b := 0) hx.out, (Below.refl _ _).drew.trans hb⟩
        · have hx := Lib.hid (show U.decR s.data.toList = (P, 4) by rw [hx.out]; simp only [U.rfin]; rw [if_pos ⟨Hp2.out, beq_iff_eq.1 hq2.out⟩])
          go_wp2
          go_region_with (first
            | (go_at_call 19; (with_reducible refine (refIsPoint_at _ _ Hp _).mono ?_); rintro e w' ⟨rfl, rfl⟩)
            | (go_at_call 41; (with_reducible refine (rencode_any P Hp2.out _).mono ?_); rintro e w' ⟨rfl, hb⟩))
          all_goals
            go_wp2
            go_ret2
            exact ⟨ret_pair (a := P) (b := 4) hx.out, (Below.refl _ _).drew.trans hb⟩
theorem rdecode_any (s : ByteArray) (hs : s.size ≤ 4294967296) (w : World) :
    Calls Try.prog 26 #[.string s] w (RDecPost s.data.toList w) := by
  by_cases h0 : s.size = 0
  · exact rdec_nil s hs w h0
  have h0 : 0 < s.size := by omega
  have hb := UInt8.toNat_lt s[0]
  have hz : ((s.size : Int) == 0) = false := beq_eq_false_iff_ne.2 (by omega)
  have hd := Lib.hid (show s.data.toList = s[0] :: s.data.toList.drop 1 from drop_cons s 0 h0)
  rcases rs_cases s[0].toNat with h | ⟨h, h', hr⟩ | ⟨h, hr⟩ | ⟨h, h', hr, hl⟩ | ⟨h, h', hr, hl⟩ | ⟨h, h', hr, hl⟩
  · exact rdec_one s hs w h0 hb hz hd h
  · exact rdec_zero s hs w h0 hb hz hd (Or.inl ⟨h, h'⟩) hr
  · exact rdec_zero s hs w h0 hb hz hd (Or.inr h) hr
  · by_cases hsh : s.size < 2
    · exact rdec_short2 s hs w h0 hb hz hd h h' hr hl hsh
    · exact rdec_go2 s hs w h0 hb hz hd h h' hr hl (by omega)
  · by_cases hsh : s.size < 3
    · exact rdec_short3 s hs w h0 hb hz hd h h' hr hl hsh
    · exact rdec_go3 s hs w h0 hb hz hd h h' hr hl (by omega)
  · by_cases hsh : s.size < 4
    · exact rdec_short4 s hs w h0 hb hz hd h h' hr hl hsh
    · exact rdec_go4 s hs w h0 hb hz hd h h' hr hl (by omega)
end Go.Proofs.Ytkoklnnlhfjbjaa
