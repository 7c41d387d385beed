/- The walks of the reference's IsName, and of both Fold. -/
import Derived.Test.YtkoklnnlhfjbjaaWkN
import Derived.Test.YtkoklnnlhfjbjaaWkK
import Derived.Outline
namespace Go.Proofs.Ytkoklnnlhfjbjaa
open Go.RowKit
theorem nameP_false (s : ByteArray) (h : nameGo 0 s.data.toList = false) : nameP s.data.toList = false := by unfold nameP; rw [h]; rfl
set_option maxRecDepth 100000 in
set_option maxHeartbeats 4000000 in
theorem refIsName_any (s : ByteArray) (hs : s.size ≤ 4294967296) (w : World) :
    Calls Try.prog 33 #[.string s] w fun e w' => e = .returned (.bool (nameP s.data.toList)) ∧ w = w' := by
  go_enter Try.func33, Try.ntmps33
  go_wp2
  go_loop [3] (fun i => ∃ k : Nat, k ≤ s.size ∧ i = .int .i64 k ∧ nameGo k (s.data.toList.drop k) = nameGo 0 s.data.toList) (fun i => s.size - (intOf i).toNat)
  case atStart => exact ⟨0, Nat.zero_le _, rfl, rfl⟩
  case round =>
    obtain ⟨k, hk, rfl, hn⟩ := hrel
    have Hn := Lib.hid hn
    clear hn
    by_cases hlt : k < s.size
    · have hst := Lib.hid (name_step s k hlt)
      have hb := UInt8.toNat_lt s[k]
      have hlet := fun (b : Bool) (h : isLet s[k] = b) => Lib.hid h
      have hoth := fun (b : Bool) (h : isOth s[k] = b) => Lib.hid h
      rcases (by omega : s[k].toNat < 45 ∨ (45 ≤ s[k].toNat ∧ s[k].toNat ≤ 45) ∨ (46 ≤ s[k].toNat ∧ s[k].toNat ≤ 47) ∨ (48 ≤ s[k].toNat ∧ s[k].toNat ≤ 57) ∨ (58 ≤ s[k].toNat ∧ s[k].toNat ≤ 64) ∨ (65 ≤ s[k].toNat ∧ s[k].toNat ≤ 90) ∨ (91 ≤ s[k].toNat ∧ s[k].toNat ≤ 94) ∨ (95 ≤ s[k].toNat ∧ s[k].toNat ≤ 95) ∨ (96 ≤ s[k].toNat ∧ s[k].toNat ≤ 96) ∨ (97 ≤ s[k].toNat ∧ s[k].toNat ≤ 122) ∨ 123 ≤ s[k].toNat) with g | ⟨g, g'⟩ | ⟨g, g'⟩ | ⟨g, g'⟩ | ⟨g, g'⟩ | ⟨g, g'⟩ | ⟨g, g'⟩ | ⟨g, g'⟩ | ⟨g, g'⟩ | ⟨g, g'⟩ | g
      · have hl := hlet false (by unfold isLet; simp; omega)
        have hoo := hoth false (by unfold isOth; simp; omega)
        have e45 : ((s[k].toNat : Int) == 45) = false := beq_eq_false_iff_ne.2 (by omega)
        have n45 : ((s[k].toNat : Int) != 45) = true := by rw [bne, e45]; rfl
        have e95 : ((s[k].toNat : Int) == 95) = false := beq_eq_false_iff_ne.2 (by omega)
        have n95 : ((s[k].toNat : Int) != 95) = true := by rw [bne, e95]; rfl
        have da : decide (97 ≤ (s[k].toNat : Int)) = false := decide_eq_false (by omega)
        have db : decide ((s[k].toNat : Int) ≤ 122) = true := decide_eq_true (by omega)
        have dc : decide (65 ≤ (s[k].toNat : Int)) = false := decide_eq_false (by omega)
        have dd : decide ((s[k].toNat : Int) ≤ 90) = true := decide_eq_true (by omega)
        have de : decide ((s[k].toNat : Int) < 48) = true := decide_eq_true (by omega)
        have df : decide (57 < (s[k].toNat : Int)) = false := decide_eq_false (by omega)
        clear hlet hoth
        have hno := Lib.hid (nameP_false s (show nameGo 0 s.data.toList = false by rw [← Hn.out, hst.out, hl.out, hoo.out]; simp))
        by_cases hk0 : k = 0
        · subst hk0
          go_wp2
          go_ret
          exact ⟨ret_bool hno.out, rfl⟩
        · have hkz : ((k : Int) == 0) = false := beq_eq_false_iff_ne.2 (by omega)
          go_wp2
          go_ret
          exact ⟨ret_bool hno.out, rfl⟩
      · have hl := hlet false (by unfold isLet; simp; omega)
        have hoo := hoth true (by unfold isOth; simp; omega)
        have e45 : ((s[k].toNat : Int) == 45) = true := beq_iff_eq.2 (by omega)
        have n45 : ((s[k].toNat : Int) != 45) = false := by rw [bne, e45]; rfl
        have e95 : ((s[k].toNat : Int) == 95) = false := beq_eq_false_iff_ne.2 (by omega)
        have n95 : ((s[k].toNat : Int) != 95) = true := by rw [bne, e95]; rfl
        have da : decide (97 ≤ (s[k].toNat : Int)) = false := decide_eq_false (by omega)
        have db : decide ((s[k].toNat : Int) ≤ 122) = true := decide_eq_true (by omega)
        have dc : decide (65 ≤ (s[k].toNat : Int)) = false := decide_eq_false (by omega)
        have dd : decide ((s[k].toNat : Int) ≤ 90) = true := decide_eq_true (by omega)
        have de : decide ((s[k].toNat : Int) < 48) = true := decide_eq_true (by omega)
        have df : decide (57 < (s[k].toNat : Int)) = false := decide_eq_false (by omega)
        clear hlet hoth
        by_cases hk0 : k = 0
        · subst hk0
          have hno := Lib.hid (nameP_false s (show nameGo 0 s.data.toList = false by rw [← Hn.out, hst.out, hl.out]; simp))
          go_wp2
          go_ret
          exact ⟨ret_bool hno.out, rfl⟩
        · have hkz : ((k : Int) == 0) = false := beq_eq_false_iff_ne.2 (by omega)
          have hk1 := Lib.hid (show decide (0 < k) = true from decide_eq_true (by omega))
          go_wp2
          go_round
          case rel => exact ⟨k + 1, by omega, by go_num, by rw [← Hn.out, hst.out, hl.out, hoo.out, hk1.out]; simp⟩
          case measure => simp [intOf]; omega
      · have hl := hlet false (by unfold isLet; simp; omega)
        have hoo := hoth false (by unfold isOth; simp; omega)
        have e45 : ((s[k].toNat : Int) == 45) = false := beq_eq_false_iff_ne.2 (by omega)
        have n45 : ((s[k].toNat : Int) != 45) = true := by rw [bne, e45]; rfl
        have e95 : ((s[k].toNat : Int) == 95) = false := beq_eq_false_iff_ne.2 (by omega)
        have n95 : ((s[k].toNat : Int) != 95) = true := by rw [bne, e95]; rfl
        have da : decide (97 ≤ (s[k].toNat : Int)) = false := decide_eq_false (by omega)
        have db : decide ((s[k].toNat : Int) ≤ 122) = true := decide_eq_true (by omega)
        have dc : decide (65 ≤ (s[k].toNat : Int)) = false := decide_eq_false (by omega)
        have dd : decide ((s[k].toNat : Int) ≤ 90) = true := decide_eq_true (by omega)
        have de : decide ((s[k].toNat : Int) < 48) = true := decide_eq_true (by omega)
        have df : decide (57 < (s[k].toNat : Int)) = false := decide_eq_false (by omega)
        clear hlet hoth
        have hno := Lib.hid (nameP_false s (show nameGo 0 s.data.toList = false by rw [← Hn.out, hst.out, hl.out, hoo.out]; simp))
        by_cases hk0 : k = 0
        · subst hk0
          go_wp2
          go_ret
          exact ⟨ret_bool hno.out, rfl⟩
        · have hkz : ((k : Int) == 0) = false := beq_eq_false_iff_ne.2 (by omega)
          go_wp2
          go_ret
          exact ⟨ret_bool hno.out, rfl⟩
      · have hl := hlet false (by unfold isLet; simp; omega)
        have hoo := hoth true (by unfold isOth; simp; omega)
        have e45 : ((s[k].toNat : Int) == 45) = false := beq_eq_false_iff_ne.2 (by omega)
        have n45 : ((s[k].toNat : Int) != 45) = true := by rw [bne, e45]; rfl
        have e95 : ((s[k].toNat : Int) == 95) = false := beq_eq_false_iff_ne.2 (by omega)
        have n95 : ((s[k].toNat : Int) != 95) = true := by rw [bne, e95]; rfl
        have da : decide (97 ≤ (s[k].toNat : Int)) = false := decide_eq_false (by omega)
        have db : decide ((s[k].toNat : Int) ≤ 122) = true := decide_eq_true (by omega)
        have dc : decide (65 ≤ (s[k].toNat : Int)) = false := decide_eq_false (by omega)
        have dd : decide ((s[k].toNat : Int) ≤ 90) = true := decide_eq_true (by omega)
        have de : decide ((s[k].toNat : Int) < 48) = false := decide_eq_false (by omega)
        have df : decide (57 < (s[k].toNat : Int)) = false := decide_eq_false (by omega)
        clear hlet hoth
        by_cases hk0 : k = 0
        · subst hk0
          have hno := Lib.hid (nameP_false s (show nameGo 0 s.data.toList = false by rw [← Hn.out, hst.out, hl.out]; simp))
          go_wp2
          go_ret
          exact ⟨ret_bool hno.out, rfl⟩
        · have hkz : ((k : Int) == 0) = false := beq_eq_false_iff_ne.2 (by omega)
          have hk1 := Lib.hid (show decide (0 < k) = true from decide_eq_true (by omega))
          go_wp2
          go_round
          case rel => exact ⟨k + 1, by omega, by go_num, by rw [← Hn.out, hst.out, hl.out, hoo.out, hk1.out]; simp⟩
          case measure => simp [intOf]; omega
      · have hl := hlet false (by unfold isLet; simp; omega)
        have hoo := hoth false (by unfold isOth; simp; omega)
        have e45 : ((s[k].toNat : Int) == 45) = false := beq_eq_false_iff_ne.2 (by omega)
        have n45 : ((s[k].toNat : Int) != 45) = true := by rw [bne, e45]; rfl
        have e95 : ((s[k].toNat : Int) == 95) = false := beq_eq_false_iff_ne.2 (by omega)
        have n95 : ((s[k].toNat : Int) != 95) = true := by rw [bne, e95]; rfl
        have da : decide (97 ≤ (s[k].toNat : Int)) = false := decide_eq_false (by omega)
        have db : decide ((s[k].toNat : Int) ≤ 122) = true := decide_eq_true (by omega)
        have dc : decide (65 ≤ (s[k].toNat : Int)) = false := decide_eq_false (by omega)
        have dd : decide ((s[k].toNat : Int) ≤ 90) = true := decide_eq_true (by omega)
        have de : decide ((s[k].toNat : Int) < 48) = false := decide_eq_false (by omega)
        have df : decide (57 < (s[k].toNat : Int)) = true := decide_eq_true (by omega)
        clear hlet hoth
        have hno := Lib.hid (nameP_false s (show nameGo 0 s.data.toList = false by rw [← Hn.out, hst.out, hl.out, hoo.out]; simp))
        by_cases hk0 : k = 0
        · subst hk0
          go_wp2
          go_ret
          exact ⟨ret_bool hno.out, rfl⟩
        · have hkz : ((k : Int) == 0) = false := beq_eq_false_iff_ne.2 (by omega)
          go_wp2
          go_ret
          exact ⟨ret_bool hno.out, rfl⟩
      · have hl := hlet true (by unfold isLet; simp; omega)
        have e45 : ((s[k].toNat : Int) == 45) = false := beq_eq_false_iff_ne.2 (by omega)
        have n45 : ((s[k].toNat : Int) != 45) = true := by rw [bne, e45]; rfl
        have e95 : ((s[k].toNat : Int) == 95) = false := beq_eq_false_iff_ne.2 (by omega)
        have n95 : ((s[k].toNat : Int) != 95) = true := by rw [bne, e95]; rfl
        have da : decide (97 ≤ (s[k].toNat : Int)) = false := decide_eq_false (by omega)
        have db : decide ((s[k].toNat : Int) ≤ 122) = true := decide_eq_true (by omega)
        have dc : decide (65 ≤ (s[k].toNat : Int)) = true := decide_eq_true (by omega)
        have dd : decide ((s[k].toNat : Int) ≤ 90) = true := decide_eq_true (by omega)
        have de : decide ((s[k].toNat : Int) < 48) = false := decide_eq_false (by omega)
        have df : decide (57 < (s[k].toNat : Int)) = true := decide_eq_true (by omega)
        clear hlet hoth
        go_wp2
        go_round
        case rel => exact ⟨k + 1, by omega, by go_num, by rw [← Hn.out, hst.out, hl.out]; simp⟩
        case measure => simp [intOf]; omega
      · have hl := hlet false (by unfold isLet; simp; omega)
        have hoo := hoth false (by unfold isOth; simp; omega)
        have e45 : ((s[k].toNat : Int) == 45) = false := beq_eq_false_iff_ne.2 (by omega)
        have n45 : ((s[k].toNat : Int) != 45) = true := by rw [bne, e45]; rfl
        have e95 : ((s[k].toNat : Int) == 95) = false := beq_eq_false_iff_ne.2 (by omega)
        have n95 : ((s[k].toNat : Int) != 95) = true := by rw [bne, e95]; rfl
        have da : decide (97 ≤ (s[k].toNat : Int)) = false := decide_eq_false (by omega)
        have db : decide ((s[k].toNat : Int) ≤ 122) = true := decide_eq_true (by omega)
        have dc : decide (65 ≤ (s[k].toNat : Int)) = true := decide_eq_true (by omega)
        have dd : decide ((s[k].toNat : Int) ≤ 90) = false := decide_eq_false (by omega)
        have de : decide ((s[k].toNat : Int) < 48) = false := decide_eq_false (by omega)
        have df : decide (57 < (s[k].toNat : Int)) = true := decide_eq_true (by omega)
        clear hlet hoth
        have hno := Lib.hid (nameP_false s (show nameGo 0 s.data.toList = false by rw [← Hn.out, hst.out, hl.out, hoo.out]; simp))
        by_cases hk0 : k = 0
        · subst hk0
          go_wp2
          go_ret
          exact ⟨ret_bool hno.out, rfl⟩
        · have hkz : ((k : Int) == 0) = false := beq_eq_false_iff_ne.2 (by omega)
          go_wp2
          go_ret
          exact ⟨ret_bool hno.out, rfl⟩
      · have hl := hlet false (by unfold isLet; simp; omega)
        have hoo := hoth true (by unfold isOth; simp; omega)
        have e45 : ((s[k].toNat : Int) == 45) = false := beq_eq_false_iff_ne.2 (by omega)
        have n45 : ((s[k].toNat : Int) != 45) = true := by rw [bne, e45]; rfl
        have e95 : ((s[k].toNat : Int) == 95) = true := beq_iff_eq.2 (by omega)
        have n95 : ((s[k].toNat : Int) != 95) = false := by rw [bne, e95]; rfl
        have da : decide (97 ≤ (s[k].toNat : Int)) = false := decide_eq_false (by omega)
        have db : decide ((s[k].toNat : Int) ≤ 122) = true := decide_eq_true (by omega)
        have dc : decide (65 ≤ (s[k].toNat : Int)) = true := decide_eq_true (by omega)
        have dd : decide ((s[k].toNat : Int) ≤ 90) = false := decide_eq_false (by omega)
        have de : decide ((s[k].toNat : Int) < 48) = false := decide_eq_false (by omega)
        have df : decide (57 < (s[k].toNat : Int)) = true := decide_eq_true (by omega)
        clear hlet hoth
        by_cases hk0 : k = 0
        · subst hk0
          have hno := Lib.hid (nameP_false s (show nameGo 0 s.data.toList = false by rw [← Hn.out, hst.out, hl.out]; simp))
          go_wp2
          go_ret
          exact ⟨ret_bool hno.out, rfl⟩
        · have hkz : ((k : Int) == 0) = false := beq_eq_false_iff_ne.2 (by omega)
          have hk1 := Lib.hid (show decide (0 < k) = true from decide_eq_true (by omega))
          go_wp2
          go_round
          case rel => exact ⟨k + 1, by omega, by go_num, by rw [← Hn.out, hst.out, hl.out, hoo.out, hk1.out]; simp⟩
          case measure => simp [intOf]; omega
      · have hl := hlet false (by unfold isLet; simp; omega)
        have hoo := hoth false (by unfold isOth; simp; omega)
        have e45 : ((s[k].toNat : Int) == 45) = false := beq_eq_false_iff_ne.2 (by omega)
        have n45 : ((s[k].toNat : Int) != 45) = true := by rw [bne, e45]; rfl
        have e95 : ((s[k].toNat : Int) == 95) = false := beq_eq_false_iff_ne.2 (by omega)
        have n95 : ((s[k].toNat : Int) != 95) = true := by rw [bne, e95]; rfl
        have da : decide (97 ≤ (s[k].toNat : Int)) = false := decide_eq_false (by omega)
        have db : decide ((s[k].toNat : Int) ≤ 122) = true := decide_eq_true (by omega)
        have dc : decide (65 ≤ (s[k].toNat : Int)) = true := decide_eq_true (by omega)
        have dd : decide ((s[k].toNat : Int) ≤ 90) = false := decide_eq_false (by omega)
        have de : decide ((s[k].toNat : Int) < 48) = false := decide_eq_false (by omega)
        have df : decide (57 < (s[k].toNat : Int)) = true := decide_eq_true (by omega)
        clear hlet hoth
        have hno := Lib.hid (nameP_false s (show nameGo 0 s.data.toList = false by rw [← Hn.out, hst.out, hl.out, hoo.out]; simp))
        by_cases hk0 : k = 0
        · subst hk0
          go_wp2
          go_ret
          exact ⟨ret_bool hno.out, rfl⟩
        · have hkz : ((k : Int) == 0) = false := beq_eq_false_iff_ne.2 (by omega)
          go_wp2
          go_ret
          exact ⟨ret_bool hno.out, rfl⟩
      · have hl := hlet true (by unfold isLet; simp; omega)
        have e45 : ((s[k].toNat : Int) == 45) = false := beq_eq_false_iff_ne.2 (by omega)
        have n45 : ((s[k].toNat : Int) != 45) = true := by rw [bne, e45]; rfl
        have e95 : ((s[k].toNat : Int) == 95) = false := beq_eq_false_iff_ne.2 (by omega)
        have n95 : ((s[k].toNat : Int) != 95) = true := by rw [bne, e95]; rfl
        have da : decide (97 ≤ (s[k].toNat : Int)) = true := decide_eq_true (by omega)
        have db : decide ((s[k].toNat : Int) ≤ 122) = true := decide_eq_true (by omega)
        have dc : decide (65 ≤ (s[k].toNat : Int)) = true := decide_eq_true (by omega)
        have dd : decide ((s[k].toNat : Int) ≤ 90) = false := decide_eq_false (by omega)
        have de : decide ((s[k].toNat : Int) < 48) = false := decide_eq_false (by omega)
        have df : decide (57 < (s[k].toNat : Int)) = true := decide_eq_true (by omega)
        clear hlet hoth
        go_wp2
        go_round
        case rel => exact ⟨k + 1, by omega, by go_num, by rw [← Hn.out, hst.out, hl.out]; simp⟩
        case measure => simp [intOf]; omega
      · have hl := hlet false (by unfold isLet; simp; omega)
        have hoo := hoth false (by unfold isOth; simp; omega)
        have e45 : ((s[k].toNat : Int) == 45) = false := beq_eq_false_iff_ne.2 (by omega)
        have n45 : ((s[k].toNat : Int) != 45) = true := by rw [bne, e45]; rfl
        have e95 : ((s[k].toNat : Int) == 95) = false := beq_eq_false_iff_ne.2 (by omega)
        have n95 : ((s[k].toNat : Int) != 95) = true := by rw [bne, e95]; rfl
        have da : decide (97 ≤ (s[k].toNat : Int)) = true := decide_eq_true (by omega)
        have db : decide ((s[k].toNat : Int) ≤ 122) = false := decide_eq_false (by omega)
        have dc : decide (65 ≤ (s[k].toNat : Int)) = true := decide_eq_true (by omega)
        have dd : decide ((s[k].toNat : Int) ≤ 90) = false := decide_eq_false (by omega)
        have de : decide ((s[k].toNat : Int) < 48) = false := decide_eq_false (by omega)
        have df : decide (57 < (s[k].toNat : Int)) = true := decide_eq_true (by omega)
        clear hlet hoth
        have hno := Lib.hid (nameP_false s (show nameGo 0 s.data.toList = false by rw [← Hn.out, hst.out, hl.out, hoo.out]; simp))
        by_cases hk0 : k = 0
        · subst hk0
          go_wp2
          go_ret
          exact ⟨ret_bool hno.out, rfl⟩
        · have hkz : ((k : Int) == 0) = false := beq_eq_false_iff_ne.2 (by omega)
          go_wp2
          go_ret
          exact ⟨ret_bool hno.out, rfl⟩
    · have he := Lib.hid (show nameGo 0 s.data.toList = true by rw [← Hn.out, drop_end s k (by omega)]; rfl)
      have hfin := Lib.hid (show nameP s.data.toList = (decide (1 ≤ s.size) && decide (s.size ≤ 40)) by unfold nameP; rw [he.out]; simp)
      rcases (by omega : s.size < 1 ∨ (1 ≤ s.size ∧ s.size ≤ 40) ∨ (1 ≤ s.size ∧ 40 < s.size)) with g | ⟨g, g'⟩ | ⟨g, g'⟩
      · have hfin := Lib.hid (show nameP s.data.toList = false by rw [hfin.out, decide_eq_false (by omega)]; rfl)
        have f1 : decide ((1 : Int) ≤ s.size) = false := decide_eq_false (by omega)
        go_wp2
        go_ret
        exact ⟨ret_bool hfin.out, rfl⟩
      · have hfin := Lib.hid (show nameP s.data.toList = true by rw [hfin.out, decide_eq_true (by omega), decide_eq_true (by omega)]; rfl)
        have f1 : decide ((1 : Int) ≤ s.size) = true := decide_eq_true (by omega)
        have f2 : decide ((s.size : Int) ≤ 40) = true := decide_eq_true (by omega)
        go_wp2
        go_ret
        exact ⟨ret_bool hfin.out, rfl⟩
      · have hfin := Lib.hid (show nameP s.data.toList = false by rw [hfin.out, decide_eq_true (by omega), decide_eq_false (by omega)]; rfl)
        have f1 : decide ((1 : Int) ≤ s.size) = true := decide_eq_true (by omega)
        have f2 : decide ((s.size : Int) ≤ 40) = false := decide_eq_false (by omega)
        go_wp2
        go_ret
        exact ⟨ret_bool hfin.out, rfl⟩
end Go.Proofs.Ytkoklnnlhfjbjaa
