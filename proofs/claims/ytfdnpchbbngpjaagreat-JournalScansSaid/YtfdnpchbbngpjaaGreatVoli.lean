/- Survive. -/
import Derived.Test.YtfdnpchbbngpjaaGreatVolh
import Derived.Lib.SmallJoins
import Derived.Lib.Strings
namespace Go.Proofs.YtfdnpchbbngpjaaGreat
open Go.RowKit Go.Maps

theorem surv_short (a b : ByteArray) (c : Nat) (w : World) (h : ¬ (a.size = 256 ∧ b.size = 256)) :
    Calls Tryz.prog 54 #[.string a, .string b, .int .u8 (c : Int)] w fun e w' => e = .returned (.string ⟨#[]⟩) ∧ w = w' := by
  by_cases h1 : a.size = 256
  · have h2 : b.size ≠ 256 := fun e => h ⟨h1, e⟩
    have d1 : ((a.size : Int) != 256) = false := by rw [h1]; rfl
    have d2 : (a.size != 256) = false := by rw [h1]; rfl
    have d3 : ((b.size : Int) != 256) = true := by rw [bne_iff_ne]; omega
    have d4 : (b.size != 256) = true := by rw [bne_iff_ne]; exact h2
    clear h h1 h2
    go_enter Tryz.func54, Tryz.ntmps54
    go_wp2
    go_ret
    exact ⟨rfl, rfl⟩
  · have d1 : ((a.size : Int) != 256) = true := by rw [bne_iff_ne]; omega
    have d2 : (a.size != 256) = true := by rw [bne_iff_ne]; exact h1
    clear h h1
    go_enter Tryz.func54, Tryz.ntmps54
    go_wp2
    go_ret
    exact ⟨rfl, rfl⟩

theorem cut_join (a b : ByteArray) (n : Nat) : (b.extract 0 n ++ a.extract n a.size) = ⟨(b.data.toList.take n ++ a.data.toList.drop n).toArray⟩ := by
  apply bytes_ext
  rw [Joins.data_append, Lib.extract_data, Lib.extract_data]
  simp only [List.drop_zero, Nat.sub_zero]
  rw [List.take_of_length_le (l := a.data.toList.drop n) (by simp)]
theorem surv_new {a b : ByteArray} (c q : Nat) (hm : c % 4 = 2) (hq : c / 4 % 3 = q) : surv a b c = b.extract 0 (64 * (q + 1)) ++ a.extract (64 * (q + 1)) a.size := by
  rw [cut_join]
  unfold surv
  simp only
  rw [if_neg (by omega), if_neg (by omega), if_pos hm, hq]
theorem surv_old {a b : ByteArray} (c q : Nat) (hm : c % 4 = 3) (hq : c / 4 % 3 = q) : surv a b c = a.extract 0 (64 * (q + 1)) ++ b.extract (64 * (q + 1)) b.size := by
  rw [cut_join]
  unfold surv
  simp only
  rw [if_neg (by omega), if_neg (by omega), if_neg (by omega), hq]

set_option maxHeartbeats 1000000 in
theorem surv_any (a b : ByteArray) (c : Nat) (hc : c < 256) (w : World) (ha : a.size = 256) (hb : b.size = 256) :
    Calls Tryz.prog 54 #[.string a, .string b, .int .u8 (c : Int)] w fun e w' => e = .returned (.string (surv a b c)) ∧ ∃ n, w' = w.drewN n := by
  have d1 : ((a.size : Int) != 256) = false := by rw [ha]; rfl
  have d2 : (a.size != 256) = false := by rw [ha]; rfl
  have d3 : ((b.size : Int) != 256) = false := by rw [hb]; rfl
  have d4 : (b.size != 256) = false := by rw [hb]; rfl
  obtain ⟨q, hq, hq3⟩ : ∃ q : Nat, c / 4 % 3 = q ∧ q < 3 := ⟨_, rfl, Nat.mod_lt _ (by omega)⟩
  obtain ⟨m, hm, hm4⟩ : ∃ m : Nat, c % 4 = m ∧ m < 4 := ⟨_, rfl, Nat.mod_lt _ (by omega)⟩
  have hqi : ((c : Int) / 4 % 3) = (q : Int) := by omega
  have hmi : ((c : Int) % 4) = (m : Int) := by omega
  have HA := Lib.hid ha
  have HB := Lib.hid hb
  have HQ := Lib.hid hq
  have HM := Lib.hid hm
  have ga : (256 : Int) ≤ (a.size : Int) := by omega
  have gb : (256 : Int) ≤ (b.size : Int) := by omega
  clear ha hb hq hm
  match m, hm4 with
  | 0, _ =>
    simp at hmi
    go_enter Tryz.func54, Tryz.ntmps54
    go_wp2
    go_ret
    refine ⟨?_, 0, rfl⟩
    unfold surv; simp only; rw [if_pos HM.out]; rfl
  | 1, _ =>
    simp at hmi
    go_enter Tryz.func54, Tryz.ntmps54
    go_wp2
    go_ret
    refine ⟨?_, 0, rfl⟩
    unfold surv; simp only; rw [if_neg (by rw [HM.out]; omega), if_pos HM.out]; rfl
  | 2, _ =>
    match q, hq3 with
    | 0, _ =>
      simp at hmi
      simp at hqi
      have ha := HA.out
      have hb := HB.out
      clear ga gb d1 d2 d3 d4
      go_enter Tryz.func54, Tryz.ntmps54
      go_wp2
      go_quiet (fail)
      go_wp2
      go_ret
      refine ⟨?_, _, rfl⟩
      rw [surv_new c 0 HM.out HQ.out, ha]; rfl
    | 1, _ =>
      simp at hmi
      simp at hqi
      have ha := HA.out
      have hb := HB.out
      clear ga gb d1 d2 d3 d4
      go_enter Tryz.func54, Tryz.ntmps54
      go_wp2
      go_quiet (fail)
      go_wp2
      go_ret
      refine ⟨?_, _, rfl⟩
      rw [surv_new c 1 HM.out HQ.out, ha]; rfl
    | 2, _ =>
      simp at hmi
      simp at hqi
      have ha := HA.out
      have hb := HB.out
      clear ga gb d1 d2 d3 d4
      go_enter Tryz.func54, Tryz.ntmps54
      go_wp2
      go_quiet (fail)
      go_wp2
      go_ret
      refine ⟨?_, _, rfl⟩
      rw [surv_new c 2 HM.out HQ.out, ha]; rfl
  | 3, _ =>
    match q, hq3 with
    | 0, _ =>
      simp at hmi
      simp at hqi
      have ha := HA.out
      have hb := HB.out
      clear ga gb d1 d2 d3 d4
      go_enter Tryz.func54, Tryz.ntmps54
      go_wp2
      go_quiet (fail)
      go_wp2
      go_ret
      refine ⟨?_, _, rfl⟩
      rw [surv_old c 0 HM.out HQ.out, hb]; rfl
    | 1, _ =>
      simp at hmi
      simp at hqi
      have ha := HA.out
      have hb := HB.out
      clear ga gb d1 d2 d3 d4
      go_enter Tryz.func54, Tryz.ntmps54
      go_wp2
      go_quiet (fail)
      go_wp2
      go_ret
      refine ⟨?_, _, rfl⟩
      rw [surv_old c 1 HM.out HQ.out, hb]; rfl
    | 2, _ =>
      simp at hmi
      simp at hqi
      have ha := HA.out
      have hb := HB.out
      clear ga gb d1 d2 d3 d4
      go_enter Tryz.func54, Tryz.ntmps54
      go_wp2
      go_quiet (fail)
      go_wp2
      go_ret
      refine ⟨?_, _, rfl⟩
      rw [surv_old c 2 HM.out HQ.out, hb]; rfl
end Go.Proofs.YtfdnpchbbngpjaaGreat
