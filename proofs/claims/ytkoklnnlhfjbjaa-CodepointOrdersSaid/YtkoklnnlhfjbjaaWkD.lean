/- The walks of IsPoint, At, and the law's cut and same. -/
import Derived.Test.YtkoklnnlhfjbjaaWkC
namespace Go.Proofs.Ytkoklnnlhfjbjaa
open Go.RowKit
def isPtI (p : Int) : Bool := decide (0 ≤ p) && U.isPt p.toNat
theorem isPtI_iff (p : Int) : isPtI p = true ↔ 0 ≤ p ∧ p ≤ 1114111 ∧ ¬ (55296 ≤ p ∧ p ≤ 57343) := by
  unfold isPtI; rw [Bool.and_eq_true, U.isPt_iff, decide_eq_true_eq]; omega
theorem isPtI_false (p : Int) : isPtI p = false ↔ ¬ (0 ≤ p ∧ p ≤ 1114111 ∧ ¬ (55296 ≤ p ∧ p ≤ 57343)) := by
  rw [← isPtI_iff]; simp
set_option maxRecDepth 100000 in
set_option maxHeartbeats 400000 in
theorem isPoint_any (p : Int) (w : World) :
    Calls Try.prog 18 #[.int .i64 p] w fun e w' => e = .returned (.bool (isPtI p)) ∧ w = w' := by
  have yes := fun h => Lib.hid ((isPtI_iff p).2 h)
  have no := fun h => Lib.hid ((isPtI_false p).2 h)
  rcases (by omega : p < 0 ∨ 1114111 < p ∨ (0 ≤ p ∧ p < 55296) ∨ (55296 ≤ p ∧ p ≤ 57343) ∨ (57343 < p ∧ p ≤ 1114111)) with h | h | ⟨h, h'⟩ | ⟨h, h'⟩ | ⟨h, h'⟩
  case inl | inr.inl =>
    have no := no (by omega)
    clear yes
    go_enter Try.func18, Try.ntmps18
    go_wp2
    go_ret
    exact ⟨by rw [no.out]; rfl, rfl⟩
  case inr.inr.inl | inr.inr.inr.inr =>
    have yes := yes (by omega)
    clear no
    have hq : (p / 2048 != 27) = true := by rw [bne_iff_ne]; omega
    go_enter Try.func18, Try.ntmps18
    go_wp2
    go_ret
    exact ⟨by rw [yes.out]; rfl, rfl⟩
  case inr.inr.inr.inl =>
    have no := no (by omega)
    clear yes
    have hq : (p / 2048 != 27) = false := by rw [bne_eq_false_iff_eq]; omega
    go_enter Try.func18, Try.ntmps18
    go_wp2
    go_ret
    exact ⟨by rw [no.out]; rfl, rfl⟩
set_option maxRecDepth 100000 in
set_option maxHeartbeats 400000 in
theorem refIsPoint_any (p : Int) (w : World) :
    Calls Try.prog 19 #[.int .i64 p] w fun e w' => e = .returned (.bool (isPtI p)) ∧ w = w' := by
  have yes := fun h => Lib.hid ((isPtI_iff p).2 h)
  have no := fun h => Lib.hid ((isPtI_false p).2 h)
  rcases (by omega : p < 0 ∨ 1114111 < p ∨ (0 ≤ p ∧ p < 55296) ∨ (55296 ≤ p ∧ p ≤ 57343) ∨ (57343 < p ∧ p ≤ 1114111)) with h | h | ⟨h, h'⟩ | ⟨h, h'⟩ | ⟨h, h'⟩
  case inr.inr.inr.inl =>
    have no := no (by omega)
    clear yes
    have d1 : decide (p < 55296) = false := decide_eq_false (by omega)
    have d2 : decide (57343 < p) = false := decide_eq_false (by omega)
    go_enter Try.func19, Try.ntmps19
    go_wp2
    go_ret
    exact ⟨by rw [no.out]; rfl, rfl⟩
  case inl | inr.inl =>
    have no := no (by omega)
    clear yes
    go_enter Try.func19, Try.ntmps19
    go_wp2
    go_ret
    exact ⟨by rw [no.out]; rfl, rfl⟩
  case inr.inr.inl | inr.inr.inr.inr =>
    have yes := yes (by omega)
    clear no
    go_enter Try.func19, Try.ntmps19
    go_wp2
    go_ret
    exact ⟨by rw [yes.out]; rfl, rfl⟩

/-- what At returns -/
def atP (l : List UInt8) (o : Int) : Nat × Nat × Int :=
  if o < 0 ∨ (l.length : Int) ≤ o then (0, 0, 2) else if (U.dec (l.drop o.toNat)).2.2 then ((U.dec (l.drop o.toNat)).1, (U.dec (l.drop o.toNat)).2.1, 0) else (0, 0, 12)
theorem at_out (l : List UInt8) (o : Int) (h : o < 0 ∨ (l.length : Int) ≤ o) : atP l o = (0, 0, 2) := by unfold atP; rw [if_pos h]
theorem at_in (s : ByteArray) (k : Nat) (hk : k < s.size) : atP s.data.toList k = if (U.dec (s.data.toList.drop k)).2.2 then ((U.dec (s.data.toList.drop k)).1, (U.dec (s.data.toList.drop k)).2.1, 0) else (0, 0, 12) := by
  unfold atP
  have : s.data.toList.length = s.size := by simp
  rw [if_neg (by omega), Int.toNat_natCast]
theorem ret3 {a b : Nat} {c : Int} {t : Nat × Nat × Int} (h : t = (a, b, c)) : Ending.returned (.tuple #[.int .i64 a, .int .i64 b, .int .i64 c]) = .returned (.tuple #[.int .i64 t.1, .int .i64 t.2.1, .int .i64 t.2.2]) := by rw [h]
set_option maxRecDepth 100000 in
set_option maxHeartbeats 400000 in
theorem at_any (s : ByteArray) (o : Int) (hs : s.size ≤ 4294967296) (w : World) :
    Calls Try.prog 25 #[.string s, .int .i64 o] w fun e w' => e = .returned (.tuple #[.int .i64 (atP s.data.toList o).1, .int .i64 (atP s.data.toList o).2.1, .int .i64 (atP s.data.toList o).2.2]) ∧ w = w' := by
  rcases (by omega : o < 0 ∨ (s.size : Int) ≤ o ∨ (0 ≤ o ∧ o < s.size)) with h | h | ⟨h, h'⟩
  case inl | inr.inl =>
    have hx := Lib.hid (at_out s.data.toList o (by have : s.data.toList.length = s.size := by simp
                                                   omega))
    go_enter Try.func25, Try.ntmps25
    go_wp2
    go_ret3
    exact ⟨ret3 (a := 0) (b := 0) hx.out, rfl⟩
  case inr.inr =>
    obtain ⟨k, rfl⟩ := Int.eq_ofNat_of_zero_le h
    have hk : k < s.size := by omega
    have hx := Lib.hid (at_in s k hk)
    obtain ⟨p, n, b, hd⟩ : ∃ p n b, U.dec (s.data.toList.drop k) = (p, n, b) := ⟨_, _, _, rfl⟩
    have Hd := Lib.hid hd
    clear hd
    cases b
    all_goals
      go_enter Try.func25, Try.ntmps25
      go_wp2_with ((go_at_call 37; (with_reducible refine (decode_at s k _ _ _ hs hk Hd _).mono ?_); rintro e w' ⟨rfl, rfl⟩))
      go_ret3
      first
        | exact ⟨ret3 (a := 0) (b := 0) (c := 12) (by rw [hx.out, Hd.out]; rfl), rfl⟩
        | exact ⟨ret3 (a := p) (b := n) (c := 0) (by rw [hx.out, Hd.out]; rfl), rfl⟩

/-- the law's limit on a string -/
def cutS (s : ByteArray) : ByteArray := if s.size ≤ 300 then s else s.extract 0 300
theorem size_cutS (s : ByteArray) : (cutS s).size ≤ 300 := by
  unfold cutS
  split
  · assumption
  · simp; omega
theorem ret_cut {s t : ByteArray} (h : cutS s = t) : Ending.returned (.string t) = .returned (.string (cutS s)) := by rw [h]
set_option maxRecDepth 100000 in
set_option maxHeartbeats 400000 in
theorem cut_any (s : ByteArray) (hs : s.size ≤ 9223372036854775807) (w : World) :
    Calls Try.prog 12 #[.string s] w fun e w' => e = .returned (.string (cutS s)) ∧ w = w' := by
  by_cases h : s.size ≤ 300
  · have hm := Lib.hid (show cutS s = s by unfold cutS; rw [if_pos h])
    go_enter Try.func12, Try.ntmps12
    go_wp2
    go_ret
    exact ⟨ret_cut hm.out, rfl⟩
  · have hm := Lib.hid (show cutS s = s.extract 0 300 by unfold cutS; rw [if_neg h])
    have h' : 300 < s.size := by omega
    clear h
    go_enter Try.func12, Try.ntmps12
    go_wp2
    go_ret
    exact ⟨ret_cut hm.out, rfl⟩
end Go.Proofs.Ytkoklnnlhfjbjaa
