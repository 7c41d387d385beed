/- A device has the sectors of the book. -/
import Derived.Test.YtfdnpchbbngpjaaGreatJbk
import Derived.Test.YtfdnpchbbngpjaaGreatJpb
import Derived.Test.YtfdnpchbbngpjaaGreatJhd
import Derived.Test.YtfdnpchbbngpjaaGreatJby
import Derived.Laws.IdiomStrings
namespace Go.Proofs.YtfdnpchbbngpjaaGreat
attribute [local go_sem ↓] Go.wp_at_zero Go.wp_at_succ
open Go.RowKit Go.Maps

theorem add_off (g o j : Nat) : ((⟨g, o, none⟩ : Addr).add j) = ⟨g, o + j, none⟩ := by
  unfold Addr.add
  split
  · rename_i h0; subst h0; rfl
  · simp
theorem H256.conv {w : World} {g : Nat} {l : List UInt8} (h : H256 w g l) (cap : Nat) : (convert 31 9 (.slice (some ⟨g, 0, none⟩) 256 cap)).run Tryz.prog w = .ok (.string (bytesOf l)) w := by
  obtain ⟨c, fr, hh, hc, hl⟩ := h
  have := run_convert_bytes_back (P := Tryz.prog) w 31 9 5 ⟨g, 0, none⟩ cap l Tryz.underlying31 Tryz.underlying5 Tryz.underlying9 (fun j hj => by
    rw [add_off, Nat.zero_add]
    simp only [World.cell?, hh]
    rw [hc j (by omega), List.getD_eq_getElem?_getD, List.getElem?_eq_getElem hj]
    rfl)
  rw [hl] at this
  exact this
theorem area_conv {w : World} {ga ca m j : Nat} {A : List UInt8} (h : w.ownsRow 0 5 1 (.slice (some ⟨ga, 0, none⟩) A.length ca) A.length (Lib.byteCells A)) (hA : A.length = 256 * m) (hj : j < m) (cap : Nat) :
    (convert 31 9 (.slice (some ⟨ga, j * 256, none⟩) 256 cap)).run Tryz.prog w = .ok (.string (bytesOf (sec A j))) w := by
  have hs := sec_length hA hj
  have := run_convert_bytes_back (P := Tryz.prog) w 31 9 5 ⟨ga, j * 256, none⟩ cap (sec A j) Tryz.underlying31 Tryz.underlying5 Tryz.underlying9 (fun i hi => by
    rw [add_off, h.cellAt (j * 256 + i) (by omega), bcell_atJ A _ (by omega)]
    have e := sec_at A j i (by omega)
    rw [List.getD_eq_getElem?_getD, List.getD_eq_getElem?_getD, List.getElem?_eq_getElem hi, List.getElem?_eq_getElem (by omega)] at e
    have e' : (sec A j)[i] = A[256 * j + i] := e
    rw [e']
    have : ∀ x y : Nat, x = y → ∀ (h1 : x < A.length) (h2 : y < A.length), A[x] = A[y] := by intro x y h; subst h; intros; rfl
    rw [this (j * 256 + i) (256 * j + i) (by omega) (by omega) (by omega)])
  rw [hs] at this
  exact this
set_option maxRecDepth 100000 in
set_option maxHeartbeats 4000000 in
theorem bimage_any {w : World} {bb vb m : Nat} {B : BS} {G F : List Nat} {st : VS} (h : BkF w bb B G) (hV : VolF w vb st F) (hd : st.down = false) (hl : st.dur.length = m + 2) (hm2 : m ≤ 64) (h0 : st.sct 0 = B.h0) (h1 : st.sct 1 = B.h1) (hA : st.area = B.area) :
    Calls Tryz.prog 22 #[.pointer (some ⟨bb, 0, none⟩), .pointer (some ⟨vb, 0, none⟩)] w fun e w' => e = .returned (.bool true) ∧ Below w.heap.size w w' := by
  obtain ⟨g0, g1, ga, c0, c1, ca, vr, h, rfl⟩ := h
  have hAl : B.area.length = 256 * m := by rw [← hA, hV.wf.area, hl]; rfl
  have hcont : ∀ k l, st.sct k = l → st.content k = bytesOf l := by
    intro k l e
    apply bytes_ext
    rw [bytesOf_list]
    exact e
  go_enter Tryz.func22, Tryz.ntmps22
  go_wp2
  go_loopw [5] (fun i wr_ => ∃ k : Nat, k ≤ m + 2 ∧ i = .int .i64 (k : Int) ∧ Below w.heap.size w wr_) (fun i _ => m + 2 - (intOf i).toNat)
  case atStart => exact ⟨0, Nat.zero_le _, rfl, Below.refl _ _⟩
  case round =>
    obtain ⟨k, hk, rfl, hb⟩ := hrel
    have hV1 := hV.below hb
    by_cases hkm : k < m + 2
    · have hrd := read_in' hd (k := k) (by omega)
      have HV := Lib.hid hV1
      rcases Nat.lt_or_ge k 2 with hk2 | hk2
      · rcases (show k = 0 ∨ k = 1 by omega) with rfl | rfl
        · rw [hcont 0 _ h0] at hrd
          have HRD := Lib.hid hrd
          clear hrd hV1
          go_wp2_with (first
            | (go_at_call 36; refine (len_own HV.out).mono ?_; rw [hl]; rintro e w1 ⟨rfl, rfl⟩)
            | (go_at_call 37; refine (read_any ((0 : Nat) : Int) HV.out).mono ?_; rw [HRD.out]; rintro e w1 ⟨rfl, hb1⟩; have hB1 := h.below (hb.trans (hb1.mono hb.size)); have hcv := hB1.h0.conv c0; have z0 : w1.cell? ⟨bb, 0, none⟩ = some (.slice (some ⟨g0, 0, none⟩) 256 c0) := hB1.blk.cell 0))
          go_roundw
          case rel => exact ⟨1, by omega, by go_num, hb.trans (hb1.mono hb.size)⟩
          case measure => simp [intOf]
        · rw [hcont 1 _ h1] at hrd
          have HRD := Lib.hid hrd
          clear hrd hV1
          go_wp2_with (first
            | (go_at_call 36; refine (len_own HV.out).mono ?_; rw [hl]; rintro e w1 ⟨rfl, rfl⟩)
            | (go_at_call 37; refine (read_any ((1 : Nat) : Int) HV.out).mono ?_; rw [HRD.out]; rintro e w1 ⟨rfl, hb1⟩; have hB1 := h.below (hb.trans (hb1.mono hb.size)); have hcv := hB1.h1.conv c1; have z0 : w1.cell? ⟨bb, 1, none⟩ = some (.slice (some ⟨g1, 0, none⟩) 256 c1) := hB1.blk.cell 1))
          go_roundw
          case rel => exact ⟨2, by omega, by go_num, hb.trans (hb1.mono hb.size)⟩
          case measure => simp [intOf]
      · obtain ⟨j, rfl⟩ : ∃ j, k = j + 2 := ⟨k - 2, by omega⟩
        have hsj : st.sct (j + 2) = sec B.area j := by
          rw [← hA, hV.wf.sec (by rw [hl]; omega), Nat.add_comm]
        rw [hcont _ _ hsj] at hrd
        have HRD := Lib.hid hrd
        have e2 : decide ((j : Int) + 2 < 2) = false := by simp; omega
        have e4 : ((j : Int) + 2 - 2) = (j : Int) := by omega
        have e5 : ((j : Int) + 2 - 1) = (j : Int) + 1 := by omega
        have hca : 256 * m ≤ ca := by
          rcases h.ar.2 with ⟨e, _⟩ | ⟨_, _, _, e, _, _, hn, _⟩
          · cases e
          · injection e with _ _ e
            omega
        have u1 : (0 : Int) ≤ ((j : Int) + 1) * 256 := by omega
        have u2 : ((j : Int) + 1) * 256 ≤ (ca : Int) := by omega
        have u3 : (0 : Int) ≤ (j : Int) * 256 := by omega
        have u4 : (j : Int) * 256 ≤ ((j : Int) + 1) * 256 := by omega
        have u5 : ¬ (ca = j * 256) := by omega
        have u6 : (((j : Int) + 1) * 256).toNat = j * 256 + 256 := by omega
        have u7 : ((j : Int) * 256).toNat = j * 256 := by omega
        have u8 : j * 256 + 256 - j * 256 = 256 := by omega
        have u9 : (j : Int) * 256 ≤ ((j * 256 + 256 : Nat) : Int) := by omega
        have u10 : (j : Int) * 256 ≤ (j : Int) * 256 + 256 := by omega
        clear hrd hV1
        obtain ⟨D, hD⟩ : ∃ D, bytesOf (sec B.area j) = D := ⟨_, rfl⟩
        rw [hD] at HRD
        go_wp2_with (first
          | (go_at_call 36; refine (len_own HV.out).mono ?_; rw [hl]; rintro e w1 ⟨rfl, rfl⟩)
          | (go_at_call 37; refine (read_any ((j + 2 : Nat) : Int) HV.out).mono ?_; rw [HRD.out]; rintro e w1 ⟨rfl, hb1⟩; have hB1 := h.below (hb.trans (hb1.mono hb.size)); have hcv := area_conv hB1.ar hAl (show j < m by omega) (ca - j * 256); rw [hD] at hcv; have z0 : w1.cell? ⟨bb, 2, none⟩ = some (.slice (some ⟨ga, 0, none⟩) (256 * m) ca) := (by rw [← hAl]; exact hB1.blk.cell 2)))
        go_roundw
        case rel => exact ⟨j + 2 + 1, by omega, by go_num, hb.trans (hb1.mono hb.size)⟩
        case measure => simp [intOf]; omega
    · obtain rfl : k = m + 2 := by omega
      have HV := Lib.hid hV1
      clear hV1
      go_wp2_with (first
        | (go_at_call 36; refine (len_own HV.out).mono ?_; rw [hl]; rintro e w1 ⟨rfl, rfl⟩))
      go_ret
      exact ⟨rfl, hb⟩
end Go.Proofs.YtfdnpchbbngpjaaGreat
