/- The law Balances: walked. -/
import Derived.Test.YtbpokgjahlnfhaaPla
namespace Go.Proofs.Ytbpokgjahlnfhaa
open Go.RowKit Go.Shelf

def bitsN (n : Nat) : Nat := if h : n = 0 then 0 else 1 + bitsN (n / 2)
termination_by n
decreasing_by omega
theorem bitsN_zero : bitsN 0 = 0 := by unfold bitsN; rw [dif_pos rfl]
theorem bitsN_pos {n : Nat} (h : 0 < n) : bitsN n = 1 + bitsN (n / 2) := by
  rw [bitsN, dif_neg (by omega)]
theorem bitsN_le (n : Nat) : bitsN n ≤ n := by
  induction n using Nat.strongRecOn with
  | ind n ih =>
    by_cases h : n = 0
    · subst h; rw [bitsN_zero]; omega
    · rw [bitsN_pos (by omega)]
      have := ih (n / 2) (by omega)
      omega
theorem bits_pow {m c : Nat} (h : 2 ^ m ≤ c) : m + 1 ≤ bitsN c := by
  induction m generalizing c with
  | zero =>
    rw [Nat.pow_zero] at h
    rw [bitsN_pos (by omega)]
    omega
  | succ m ih =>
    have hp : 0 < 2 ^ m := Nat.pow_pos (by omega)
    rw [Nat.pow_succ] at h
    rw [bitsN_pos (by omega)]
    have := ih (c := c / 2) (by omega)
    omega
theorem high_bits {t : Tr} (h : t.avl) (h1 : 1 ≤ t.high) : t.high ≤ 2 * bitsN t.count := by
  have := bits_pow (Tr.depth_pieces h h1)
  omega
set_option maxHeartbeats 1000000 in
theorem bits_any (n : Nat) (w : World) (hn : n ≤ 300000) : Calls Try.prog 24 #[.int .i64 (n : Int)] w fun e w' => e = .returned (.int .i64 (bitsN n : Int)) ∧ w = w' := by
  go_enter Try.func24, Try.ntmps24
  go_wp2
  go_loopw [0, 3] (fun nv kv wr => ∃ m k : Nat, nv = .int .i64 (m : Int) ∧ kv = .int .i64 (k : Int) ∧ k + bitsN m = bitsN n ∧ m ≤ n ∧ wr = w) (fun nv _ _ => (intOf nv).toNat)
  case atStart => exact ⟨n, 0, rfl, rfl, by omega, Nat.le_refl _, rfl⟩
  case round =>
    obtain ⟨m, k, rfl, rfl, hb, hm, rfl⟩ := hrel
    have hle := bitsN_le n
    by_cases h0 : m = 0
    · subst h0
      rw [bitsN_zero] at hb
      obtain rfl : k = bitsN n := by omega
      go_wp2
      go_ret
      exact ⟨rfl, rfl⟩
    · have hp := bitsN_pos (show 0 < m by omega)
      have h1 : decide ((0 : Int) < (m : Int)) = true := by simp; omega
      have hk : k ≤ 300000 := by omega
      have HB := Lib.hid hb
      have HP := Lib.hid hp
      have hm0 : 0 < m := by omega
      clear hb hp hle h0
      go_wp2
      go_roundw
      case rel =>
        refine ⟨m / 2, k + 1, ?_, by go_num, ?_, by omega, trivial⟩
        · rw [show ((m / 2 : Nat) : Int) = (m : Int) / 2 from by omega]
        · have := HB.out
          have := HP.out
          omega
      case measure => simp [intOf]; omega
set_option maxHeartbeats 2000000 in
theorem balances_row {s : ByteArray} {w : World} {v : Value} {l : List OpP} (hs : s.size ≤ maxLen) (hops : Ops w v l) : Calls Try.prog 6 #[.string s, v] w (LawPost w) := by
  have hc := cut300_size s
  obtain ⟨ao, cap, rfl⟩ := hops.shape
  have HO := Lib.hid hops
  obtain ⟨i1, i2, i3, i4, i5⟩ := run_inv (cut300 s) l 60 hc
  obtain ⟨t, n, hR⟩ : ∃ t n, runS (cut300 s) l 60 = (t, n) := ⟨_, _, rfl⟩
  have HRun := Lib.hid (fun (w1 : World) (h : Ops w1 (.slice ao l.length cap) l) => run_any (cut300 s) hc h)
  unfold RunPost at HRun
  rw [hR] at i1 i2 i3 i4 i5 HRun
  simp only at i1 i2 i3 i4 i5 HRun
  have hcl := Tr.count_le i1.1
  have hhl := Tr.high_le t
  have hts := Tr.str_size t
  clear hops hR
  by_cases h0 : t.str.size = 0
  · have hnil : t = .nil := Tr.nil_of_bytes i1.1 (List.eq_nil_of_length_eq_zero (by show t.size = 0; omega))
    subst hnil
    have hst : Tr.nil.str = ⟨#[]⟩ := rfl
    rw [hst] at HRun
    have e0 : Tr.nil.count = 0 := rfl
    have e1 : Tr.nil.high = 0 := rfl
    clear i1 i2 i3 i4 i5 hcl hhl hts h0 hst
    go_enter Try.func6, Try.ntmps6
    go_wp2_with (first
      | (go_at_call 13; refine (known_any _).mono ?_; rintro e w1 ⟨rfl, hb1⟩)
      | (go_at_call 20; refine (cut_any s _ hs).mono ?_; rintro e w2 ⟨rfl, rfl⟩)
      | (go_at_call 19; refine (HRun.out _ (HO.out.below hb1)).mono ?_; rintro e w3 ⟨tb, rfl, hT, hb3, _⟩)
      | (go_at_call 22; refine (tpieces_any hT).mono ?_; rintro e w5 ⟨rfl, n5, rfl⟩)
      | (go_at_call 23; refine (tdepth_any (hT.drewN _)).mono ?_; rintro e w6 ⟨rfl, rfl⟩))
    go_ret
    exact ⟨rfl, hb1.trans (below_drewN (hb3.mono hb1.size) _)⟩
  · have e1 := ne_empty h0
    have hc1 : 1 ≤ t.count := Tr.pos_of_bytes (fun e => h0 (by rw [hts]; show t.bytes.length = 0; rw [e]; rfl))
    have hh1 : 1 ≤ t.high := by
      cases t with
      | nil => exact absurd hc1 (by simp [Tr.count])
      | node _ _ _ => simp only [Tr.high]; omega
    have hhb := high_bits i2 hh1
    have hbl := bitsN_le t.count
    have d1 : decide ((1 : Int) ≤ (t.count : Int)) = true := by simp; omega
    have d2 : decide ((t.count : Int) ≤ 2 * (n : Int) + 1) = true := by simp; omega
    have d3 : decide ((1 : Int) ≤ (t.high : Int)) = true := by simp; omega
    have d4 : decide ((t.high : Int) ≤ 2 * (bitsN t.count : Int)) = true := by simp; omega
    have hcB : t.count ≤ 300000 := by have := i1.2; omega
    have hbB : bitsN t.count ≤ 300000 := by omega
    clear i1 i2 i3 i4 hcl hhl hts h0 hc1 hh1 hhb hbl
    go_enter Try.func6, Try.ntmps6
    go_wp2_with (first
      | (go_at_call 13; refine (known_any _).mono ?_; rintro e w1 ⟨rfl, hb1⟩)
      | (go_at_call 20; refine (cut_any s _ hs).mono ?_; rintro e w2 ⟨rfl, rfl⟩)
      | (go_at_call 19; refine (HRun.out _ (HO.out.below hb1)).mono ?_; rintro e w3 ⟨tb, rfl, hT, hb3, _⟩)
      | (go_at_call 22; refine (tpieces_any hT).mono ?_; rintro e w5 ⟨rfl, n5, rfl⟩)
      | (go_at_call 23; refine (tdepth_any (hT.drewN _)).mono ?_; rintro e w6 ⟨rfl, rfl⟩)
      | (go_at_call 24; refine (bits_any _ _ hcB).mono ?_; rintro e w7 ⟨rfl, rfl⟩))
    go_ret
    exact ⟨by rw [← d4]; rfl, hb1.trans (below_drewN (hb3.mono hb1.size) _)⟩
end Go.Proofs.Ytbpokgjahlnfhaa
