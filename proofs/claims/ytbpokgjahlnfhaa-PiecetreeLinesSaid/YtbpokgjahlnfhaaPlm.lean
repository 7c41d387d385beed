/- Line walked. -/
import Derived.Test.YtbpokgjahlnfhaaPll
namespace Go.Proofs.Ytbpokgjahlnfhaa
open Go.RowKit

/-- where line n of a tree begins and ends -/
def Tr.lineFrom (t : Tr) (n : Nat) : Nat := if n = 0 then 0 else t.feedAt (n - 1) + 1
def Tr.lineTo (t : Tr) (n : Nat) : Nat := if n < t.feeds then t.feedAt n else t.size

set_option maxHeartbeats 2000000 in
theorem line_bad (n : Int) {w : World} {tb : Nat} {t : Tr} (h : Tree w tb t) (ho : t.okay) (hn : n < 0 ∨ (t.feeds : Int) < n) :
    Calls Try.prog 32 #[.pointer (some ⟨tb, 0, none⟩), .int .i64 n] w fun e w' => e = .returned (.tuple #[.int .i64 0, .int .i64 0, .int .i64 2]) ∧ ∃ n, w' = w.drewN n := by
  have hT := h
  obtain ⟨rv, h1, h2⟩ := h
  have c0 := h1.cell 0
  simp at c0
  clear h1
  obtain ⟨p, rfl⟩ := h2.ptr
  by_cases k1 : n < 0
  · have d1 : decide (n < 0) = true := by simpa using k1
    go_enter Try.func32, Try.ntmps32
    go_wp2_with fail
    exact bodyPost_ret (v := .tuple #[.int .i64 0, .int .i64 0, .int .i64 2]) (by simp [results, Try.f32, go_sem]) rfl ⟨rfl, 0, rfl⟩
  · have d1 : decide (n < 0) = false := by simpa using k1
    have d2 : decide ((t.feeds : Int) + 1 ≤ n) = true := by simp; omega
    clear hn
    go_enter Try.func32, Try.ntmps32
    go_wp2_with (go_at_call 31; refine (tlines_any hT ho).mono ?_; rintro e w1 ⟨rfl, n1, rfl⟩)
    exact bodyPost_ret (v := .tuple #[.int .i64 0, .int .i64 0, .int .i64 2]) (by simp [results, Try.f32, go_sem]) rfl ⟨rfl, _, rfl⟩

set_option maxHeartbeats 4000000 in
theorem line_ok (n : Nat) {w : World} {tb : Nat} {t : Tr} (h : Tree w tb t) (ho : t.okay) (hn : n ≤ t.feeds) :
    Calls Try.prog 32 #[.pointer (some ⟨tb, 0, none⟩), .int .i64 (n : Int)] w fun e w' => e = .returned (.tuple #[.int .i64 (t.lineFrom n : Int), .int .i64 (t.lineTo n : Int), .int .i64 0]) ∧ ∃ n, w' = w.drewN n := by
  have hT := h
  obtain ⟨rv, h1, h2⟩ := h
  have c0 := h1.cell 0
  simp at c0
  clear h1
  obtain ⟨p, rfl⟩ := h2.ptr
  have hs : t.size ≤ 200000 := by have := ho.2; omega
  have hfl := Tr.feeds_le t
  have d2 : decide ((t.feeds : Int) + 1 ≤ (n : Int)) = false := by simp; omega
  have hb1 : t.feeds ≤ 200000 := by omega
  have hb2 : n ≤ 200000 := by omega
  have HS := Lib.hid hs
  have e1 : (t.feeds : Int) + 1 - 1 = (t.feeds : Int) := by omega
  clear hs hfl
  by_cases k0 : n = 0
  · subst k0
    have hf : t.lineFrom 0 = 0 := rfl
    have HF0 := Lib.hid hf
    by_cases k1 : 0 < t.feeds
    · have d3 : decide ((0 : Int) < (t.feeds : Int)) = true := by simp; omega
      have ht : t.lineTo 0 = t.feedAt 0 := if_pos k1
      have HT := Lib.hid ht
      have HK := Lib.hid k1
      clear k1 ht hf hn
      go_enter Try.func32, Try.ntmps32
      go_wp2_with (first
        | (go_at_call 31; refine (tlines_any (hT.drewN _) ho).mono ?_; rintro e w1 ⟨rfl, n1, rfl⟩)
        | (go_at_call 31; refine (tlines_any hT ho).mono ?_; rintro e w1 ⟨rfl, n1, rfl⟩)
        | (go_at_call 36; refine (len_any (h2.drewN _)).mono ?_; rintro e w4 ⟨rfl, rfl⟩)
        | (go_at_call 47; refine (feed_any (h2.drewN _) HS.out HK.out).mono ?_; rintro e w4 ⟨rfl, n4, rfl⟩))
      exact bodyPost_ret (v := .tuple #[.int .i64 0, .int .i64 (t.feedAt 0 : Int), .int .i64 0]) (by simp [results, Try.f32, go_sem]) rfl ⟨by rw [HF0.out, HT.out]; rfl, _, rfl⟩
    · have d3 : t.feeds = 0 := by omega
      have ht : t.lineTo 0 = t.size := if_neg k1
      have HT := Lib.hid ht
      clear k1 ht hf hn
      go_enter Try.func32, Try.ntmps32
      go_wp2_with (first
        | (go_at_call 31; refine (tlines_any (hT.drewN _) ho).mono ?_; rintro e w1 ⟨rfl, n1, rfl⟩)
        | (go_at_call 31; refine (tlines_any hT ho).mono ?_; rintro e w1 ⟨rfl, n1, rfl⟩)
        | (go_at_call 36; refine (len_any (h2.drewN _)).mono ?_; rintro e w4 ⟨rfl, rfl⟩))
      exact bodyPost_ret (v := .tuple #[.int .i64 0, .int .i64 (t.size : Int), .int .i64 0]) (by simp [results, Try.f32, go_sem]) rfl ⟨by rw [HF0.out, HT.out]; rfl, _, rfl⟩
  · obtain ⟨m, rfl⟩ : ∃ m, n = m + 1 := ⟨n - 1, by omega⟩
    have hf : t.lineFrom (m + 1) = t.feedAt m + 1 := rfl
    have hfb := feedAt_lt t (show m < t.feeds by omega)
    have hfb2 : t.feedAt m ≤ 200000 := by have := HS.out; omega
    have d4 : decide ((0 : Int) < (m : Int) + 1) = true := by rw [decide_eq_true_eq]; omega
    have d2' : decide ((t.feeds : Int) + 1 ≤ (m : Int) + 1) = false := by simp; omega
    have HM := Lib.hid (show m < t.feeds by omega)
    have d5 : decide ((m : Int) + 1 < 0) = false := by simp; omega
    have d6 : (t.feeds ≤ m) = False := by simp; omega
    have HF0 := Lib.hid hf
    obtain ⟨a, ha⟩ : ∃ a, t.feedAt m = a := ⟨_, rfl⟩
    rw [ha] at hf hfb2
    have HA := Lib.hid ha
    clear hf ha hfb k0
    by_cases k1 : m + 1 < t.feeds
    · have d3 : decide ((m : Int) + 1 < (t.feeds : Int)) = true := by simp; omega
      have ht : t.lineTo (m + 1) = t.feedAt (m + 1) := if_pos k1
      have HT := Lib.hid ht
      have HK := Lib.hid k1
      have HX0 := fun n1 : Nat => feed_any (h2.drewN n1) HS.out k1
      simp only [Int.natCast_add, Int.natCast_one] at HX0
      have HX := Lib.hid HX0
      clear HX0
      clear k1 ht hn
      go_enter Try.func32, Try.ntmps32
      go_wp2_with (first
        | (go_at_call 31; refine (tlines_any (hT.drewN _) ho).mono ?_; rintro e w1 ⟨rfl, n1, rfl⟩)
        | (go_at_call 31; refine (tlines_any hT ho).mono ?_; rintro e w1 ⟨rfl, n1, rfl⟩)
        | (go_at_call 36; refine (len_any (h2.drewN _)).mono ?_; rintro e w4 ⟨rfl, rfl⟩)
        | (go_at_call 47; with_reducible refine (feed_any (h2.drewN _) HS.out HM.out).mono ?_; rw [HA.out]; rintro e w4 ⟨rfl, n4, rfl⟩)
        | (go_at_call 47; refine (HX.out _).mono ?_; rintro e w4 ⟨rfl, n5, rfl⟩))
      exact bodyPost_ret (v := .tuple #[.int .i64 ((a : Int) + 1), .int .i64 (t.feedAt (m + 1) : Int), .int .i64 0]) (by simp [results, Try.f32, go_sem]) rfl ⟨by rw [HF0.out, HT.out, HA.out]; rfl, _, rfl⟩
    · have d3 : decide ((m : Int) + 1 < (t.feeds : Int)) = false := by simp; omega
      have ht : t.lineTo (m + 1) = t.size := if_neg k1
      have HT := Lib.hid ht
      clear k1 ht hn
      go_enter Try.func32, Try.ntmps32
      go_wp2_with (first
        | (go_at_call 31; refine (tlines_any (hT.drewN _) ho).mono ?_; rintro e w1 ⟨rfl, n1, rfl⟩)
        | (go_at_call 31; refine (tlines_any hT ho).mono ?_; rintro e w1 ⟨rfl, n1, rfl⟩)
        | (go_at_call 36; refine (len_any (h2.drewN _)).mono ?_; rintro e w4 ⟨rfl, rfl⟩)
        | (go_at_call 47; refine (feed_any (h2.drewN _) HS.out HM.out).mono ?_; rw [HA.out]; rintro e w4 ⟨rfl, n4, rfl⟩))
      exact bodyPost_ret (v := .tuple #[.int .i64 ((a : Int) + 1), .int .i64 (t.size : Int), .int .i64 0]) (by simp [results, Try.f32, go_sem]) rfl ⟨by rw [HF0.out, HT.out, HA.out]; rfl, _, rfl⟩
end Go.Proofs.Ytbpokgjahlnfhaa
