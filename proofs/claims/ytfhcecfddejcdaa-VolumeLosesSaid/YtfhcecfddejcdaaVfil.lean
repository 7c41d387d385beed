/- The contents of the verifier: filled, zero, survive. -/
import Derived.Test.YtfhcecfddejcdaaVolk
namespace Go.Proofs.Ytfhcecfddejcdaa
open Go.RowKit Go.Maps

theorem vu8_info : (Try.prog.info? 5).map (fun i => (i.zero, i.size, i.bytes)) = some (some (.int .u8 0), 1, 1) := by kernel_rfl
def fch (n i : Nat) : UInt8 := if 64 * (n % 5) ≤ i then UInt8.ofNat (65 + n / 20 % 20) else UInt8.ofNat (97 + n % 20)
def fillL (n k : Nat) : List UInt8 := (List.range k).map (fch n)
def filled (n : Nat) : ByteArray := ⟨(fillL n 256).toArray⟩
theorem fillL_len (n k : Nat) : (fillL n k).length = k := by simp [fillL]
theorem fillL_succ (n k : Nat) : fillL n (k + 1) = fillL n k ++ [fch n k] := by simp [fillL, List.range_succ]
theorem filled_size (n : Nat) : (filled n).size = 256 := by
  show (fillL n 256).toArray.size = 256
  rw [List.size_toArray, fillL_len]
def fillAt (n k : Nat) : List UInt8 := fillL n k ++ List.replicate (256 - k) 0
theorem fillAt_zero (n : Nat) : fillAt n 0 = List.replicate 256 0 := by
  unfold fillAt fillL
  rw [List.range_zero, List.map_nil, List.nil_append, Nat.sub_zero]
theorem fillAt_end (n : Nat) : fillAt n 256 = fillL n 256 := by
  unfold fillAt
  rw [Nat.sub_self, List.replicate_zero, List.append_nil]
theorem fillAt_step (n k : Nat) (hk : k < 256) : (fillAt n k).set k (fch n k) = fillAt n (k + 1) := by
  unfold fillAt
  rw [fillL_succ, List.set_append_right _ _ (by rw [fillL_len]; exact Nat.le_refl _), fillL_len, Nat.sub_self, show 256 - k = (256 - (k + 1)) + 1 from by omega, List.replicate_succ, List.set_cons_zero]
  simp
theorem cells_set (l : List UInt8) (k : Nat) (x : UInt8) : (Lib.byteCells l).set k (.int .u8 (x.toNat : Int)) = Lib.byteCells (l.set k x) := by
  unfold Lib.byteCells
  rw [List.map_set]
theorem bcell_at (l : List UInt8) (k : Nat) (h : k < l.length) : (Lib.byteCells l)[k]? = some (.int .u8 ((l[k]).toNat : Int)) := by simp [Lib.byteCells, h]
theorem fillAt_len (n k : Nat) (hk : k ≤ 256) : (fillAt n k).length = 256 := by
  unfold fillAt
  rw [List.length_append, fillL_len, List.length_replicate]
  omega

set_option maxRecDepth 100000 in
set_option maxHeartbeats 1000000 in
theorem filled_any (n : Nat) (hn : n < 256) (w : World) :
    Calls Try.prog 11 #[.int .u8 (n : Int)] w fun e w' => e = .returned (.string (filled n)) ∧ Below w.heap.size w w' := by
  obtain ⟨i0, hi, hz0, hz1, hz2⟩ := info_parts vu8_info
  have HI := Lib.hid (And.intro hi (And.intro hz0 (And.intro hz1 hz2)))
  clear hi hz0 hz1 hz2
  go_enter Try.func11, Try.ntmps11
  go_wp2_with ((at_make; refine wpList_make_full _ rfl _ _ 45 rfl w.heap.size 5 i0 (.int .u8 0) 1 Try.underlying45 HI.out.1 HI.out.2.1 HI.out.2.2.1 .i64 .i64 256 256 256 rfl rfl rfl rfl (by rw [HI.out.2.2.2]; omega) (by decide) (Nat.le_refl _) ?_; intro w1 hown hg))
  have h0 : w1.ownsRow w.heap.size 5 1 (.slice (some ⟨w.heap.size, 0, none⟩) 256 256) 256 (Lib.byteCells (fillAt n 0)) := by
    have e : (madeCells (Value.int .u8 0).cells (256 * 1)).toList = Lib.byteCells (fillAt n 0) := by
      rw [fillAt_zero, Lib.byteCells, List.map_replicate]
      exact toList_madeCells_one _ _
    rw [← e]; exact hown
  have hb0 : Below w.heap.size w w1 := (Below.refl _ w).grown hg (Nat.le_refl _) (fun _ e => by cases e)
  have H0 := Lib.hid h0
  clear hown h0 hg HI
  have hn97 : (0 : Int) ≤ 97 + (n : Int) % 20 ∧ 97 + (n : Int) % 20 ≤ 255 := by omega
  have hn65 : (0 : Int) ≤ 65 + (n : Int) / 20 % 20 ∧ 65 + (n : Int) / 20 % 20 ≤ 255 := by omega
  go_loopw [4] (fun i wr => ∃ k : Nat, k ≤ 256 ∧ i = .int .i64 k ∧ wr.ownsRow w.heap.size 5 1 (.slice (some ⟨w.heap.size, 0, none⟩) 256 256) 256 (Lib.byteCells (fillAt n k)) ∧ Below w.heap.size w wr) (fun i _ => 256 - (intOf i).toNat)
  case atStart => exact ⟨0, Nat.zero_le _, rfl, H0.out, hb0⟩
  case round =>
    obtain ⟨k, hk, rfl, hown, hbel⟩ := hrel
    by_cases hlt : k < 256
    · have hlt' : (k : Int) < 256 := by omega
      obtain ⟨u, hu⟩ : ∃ u, wr.cell? ⟨w.heap.size, k, none⟩ = some (.int .u8 u) := by
        have := hown.cellAt k (by omega)
        rw [this]
        have hl : k < (fillAt n k).length := by rw [fillAt_len n k (by omega)]; exact hlt
        exact ⟨_, bcell_at _ k hl⟩
      have hf := hown.frozenAt k
      by_cases hge : 64 * (n % 5) ≤ k
      · have hd : decide (64 * ((n : Int) % 5) ≤ (k : Int)) = true := by simp; omega
        have s1 := hown.stored k (.int .u8 (97 + (n : Int) % 20))
        have s2 := s1.1.stored k (.int .u8 (65 + (n : Int) / 20 % 20))
        have ex : (65 + (n : Int) / 20 % 20) = ((fch n k).toNat : Int) := by
          unfold fch
          rw [if_pos hge, UInt8.toNat_ofNat']
          omega
        have HO : Hid (((wr.setCell ⟨w.heap.size, k, none⟩ (.int .u8 (97 + (n : Int) % 20))).setCell ⟨w.heap.size, k, none⟩ (.int .u8 (65 + (n : Int) / 20 % 20))).ownsRow w.heap.size 5 1 (.slice (some ⟨w.heap.size, 0, none⟩) 256 256) 256 (Lib.byteCells (fillAt n (k + 1)))) := Lib.hid (by
          have := s2.1
          rw [List.set_set, ex, cells_set, fillAt_step n k hlt] at this
          rw [ex]; exact this)
        have hbw := hbel.grown s1.2 hbel.size (fun g e => by cases e; exact Nat.le_refl _)
        have HB := Lib.hid (hbw.grown s2.2 hbw.size (fun g e => by cases e; exact Nat.le_refl _))
        clear s1 s2 ex hown hbel hge hbw
        go_wp2
        go_roundw
        case rel => exact ⟨k + 1, by omega, by go_num, HO.out, HB.out⟩
        case measure => simp [intOf]; omega
      · have hd : decide (64 * ((n : Int) % 5) ≤ (k : Int)) = false := by simp; omega
        have s1 := hown.stored k (.int .u8 (97 + (n : Int) % 20))
        have ex : (97 + (n : Int) % 20) = ((fch n k).toNat : Int) := by
          unfold fch
          rw [if_neg hge, UInt8.toNat_ofNat']
          omega
        have HO : Hid ((wr.setCell ⟨w.heap.size, k, none⟩ (.int .u8 (97 + (n : Int) % 20))).ownsRow w.heap.size 5 1 (.slice (some ⟨w.heap.size, 0, none⟩) 256 256) 256 (Lib.byteCells (fillAt n (k + 1)))) := Lib.hid (by
          have := s1.1
          rw [ex, cells_set, fillAt_step n k hlt] at this
          rw [ex]; exact this)
        have HB := Lib.hid (hbel.grown s1.2 hbel.size (fun g e => by cases e; exact Nat.le_refl _))
        clear s1 ex hown hbel hge
        go_wp2
        go_roundw
        case rel => exact ⟨k + 1, by omega, by go_num, HO.out, HB.out⟩
        case measure => simp [intOf]; omega
    · obtain rfl : k = 256 := by omega
      rw [fillAt_end] at hown
      have hcv := conv_owned (P := Try.prog) (src := 45) (dst := 9) Try.underlying45 Try.underlying5 Try.underlying9 hown
      go_wp2
      go_ret
      exact ⟨rfl, hbel⟩
theorem lzero_any (w : World) : Calls Try.prog 22 #[] w fun e w' => e = .returned (.string zb) ∧ Below w.heap.size w w' := by
  obtain ⟨i0, hi, hz0, hz1, hz2⟩ := info_parts vu8_info
  have HI := Lib.hid (And.intro hi (And.intro hz0 (And.intro hz1 hz2)))
  clear hi hz0 hz1 hz2
  go_enter Try.func22, Try.ntmps22
  go_wp2_with ((at_make; refine wpList_make_full _ rfl _ _ 45 rfl w.heap.size 5 i0 (.int .u8 0) 1 Try.underlying45 HI.out.1 HI.out.2.1 HI.out.2.2.1 .i64 .i64 256 256 256 rfl rfl rfl rfl (by rw [HI.out.2.2.2]; omega) (by decide) (Nat.le_refl _) ?_; intro w1 hown hg; have hcv := conv_owned (P := Try.prog) (src := 45) (dst := 9) Try.underlying45 Try.underlying5 Try.underlying9 (show w1.ownsRow w.heap.size 5 1 (.slice (some ⟨w.heap.size, 0, none⟩) 256 256) 256 (Lib.byteCells (fillAt 0 0)) from (show (madeCells (Value.int .u8 0).cells (256 * 1)).toList = Lib.byteCells (fillAt 0 0) from by (rw [fillAt_zero, Lib.byteCells, List.map_replicate]; exact toList_madeCells_one _ _)) ▸ hown)))
  go_ret
  exact ⟨by rw [fillAt_zero]; rfl, (Below.refl _ w).grown hg (Nat.le_refl _) (fun _ e => by cases e)⟩
end Go.Proofs.Ytfhcecfddejcdaa
