/- feed walked. -/
import Derived.Test.YtbpokgjahlnfhaaPtt
import Derived.Deep.RegionHeld3
import Derived.IntWalk
import Derived.Test.YtbpokgjahlnfhaaPlk
namespace Go.Proofs.Ytbpokgjahlnfhaa
open Go.RowKit

theorem sindex_any (s : ByteArray) (w : World) : Calls Try.prog 58 #[.string s, .int .u8 10] w fun e w' => e = .returned (.int .i64 (Lib.indexByte s.data.toList 10)) ∧ w = w' :=
  (Try.strings_IndexByte s 10 w).mono fun _ _ ⟨h1, h2⟩ => ⟨h1, h2.symm⟩
set_option maxHeartbeats 4000000 in
set_option maxRecDepth 100000 in
theorem feed_any {t : Tr} {w : World} {v : Value} {idx : Nat} (h : Nd t w v) (hs : t.size ≤ 200000) (hi : idx < t.feeds) :
    Calls Try.prog 47 #[v, .int .i64 (idx : Int)] w fun e w' => e = .returned (.int .i64 (t.feedAt idx : Int)) ∧ ∃ n, w' = w.drewN n := by
  induction t generalizing idx w v with
  | nil => exact absurd hi (by have : Tr.nil.feeds = 0 := rfl; omega)
  | node l p r ihl ihr =>
    obtain ⟨b, la, ra, qs, rfl, rfl, hb, hl, hr⟩ := h
    have z2 : qs.data.toList.length = qs.size := by simp
    have s1 : l.size + qs.size + r.size ≤ 200000 := by rw [Tr.size_node, z2] at hs; exact hs
    have f1 := Tr.feeds_node l qs.data.toList r
    rw [← fposF_len qs.data.toList 0] at f1
    have f2 := Tr.feeds_le l
    have c0 := hb.cell 0
    have c1 := hb.cell 1
    have c2 := hb.cell 2
    have lt := hb.lt
    simp at c0 c1 c2
    obtain ⟨pl, rfl⟩ := hl.ptr
    obtain ⟨pr, rfl⟩ := hr.ptr
    have hf3 : l.feeds ≤ 200000 := by omega
    have hs0 : l.size ≤ 200000 := by omega
    have hs2 : qs.size ≤ 200000 := by omega
    have hs3 : r.size ≤ 200000 := by omega
    clear hb hs
    by_cases hlt : idx < l.feeds
    · have d1 : decide ((idx : Int) < (l.feeds : Int)) = true := by simp; omega
      have HR := Lib.hid (fun (w' : World) (k : Nd l w' (.pointer pl)) => ihl k hs0 hlt)
      have HV := Lib.hid (feed_left l qs.data.toList r hlt)
      clear ihl ihr f1 f2 hi
      go_enter Try.func47, Try.ntmps47
      go_wp2_with (first
        | (go_at_call 45; refine (count_any hl).mono ?_; rintro e w1 ⟨rfl, n1, rfl⟩)
        | (go_at_call 47; refine (HR.out _ (hl.drewN _)).mono ?_; rintro e w2 ⟨rfl, n2, rfl⟩))
      go_ret
      exact ⟨by rw [HV.out]; rfl, _, rfl⟩
    · obtain ⟨i0, hi0e⟩ : ∃ i0, idx = l.feeds + i0 := ⟨idx - l.feeds, by omega⟩
      have d1 : decide ((idx : Int) < (l.feeds : Int)) = false := by simp; omega
      have hi0 : i0 < (fposF qs.data.toList 0).length + r.feeds := by omega
      have hpl : (fposF qs.data.toList 0).length ≤ qs.size := by rw [fposF_len, ← z2]; exact List.length_filter_le _ _
      have hrf := Tr.feeds_le r
      have hsub : (idx : Int) - (l.feeds : Int) = (i0 : Int) := by omega
      have hib : i0 ≤ 400000 := by omega
      have hidb : idx ≤ 800000 := by omega
      have HID := Lib.hid hi0e
      have HI0 := Lib.hid hi0
      have IHR := Lib.hid (fun (w' : World) (j : Nat) (k : Nd r w' (.pointer pr)) (hj : j < r.feeds) => ihr k hs3 hj)
      clear ihl ihr f1 f2 hi hi0e hi0
      go_enter Try.func47, Try.ntmps47
      go_wp2_with (first
        | (go_at_call 45; refine (count_any hl).mono ?_; rintro e w1 ⟨rfl, n1, rfl⟩))
      go_loopw [1, 7] (fun iv av wr => ∃ j a m : Nat, j ≤ i0 ∧ j ≤ (fposF qs.data.toList 0).length ∧ iv = .int .i64 ((i0 - j : Nat) : Int) ∧ av = .int .i64 (a : Int) ∧ a ≤ qs.size ∧ fposF (qs.data.toList.drop a) a = (fposF qs.data.toList 0).drop j ∧ wr = w.drewN m) (fun iv _ _ => (intOf iv).toNat)
      case atStart => exact ⟨0, 0, n1, Nat.zero_le _, Nat.zero_le _, by rw [Nat.sub_zero], rfl, Nat.zero_le _, rfl, rfl⟩
      case round =>
        obtain ⟨j, a, m, hj, hjp, rfl, rfl, ha, hP, rfl⟩ := hrel
        have hex : (qs.extract a qs.size).data.toList = qs.data.toList.drop a := drop_ext qs a
        rw [← hex] at hP
        have haI : (a : Int) ≤ (qs.size : Int) := by omega
        obtain ⟨q, hq, hqb⟩ : ∃ q : Nat, i0 - j = q ∧ q ≤ 400000 := ⟨_, rfl, by omega⟩
        rw [hq]
        cases hc : (fposF qs.data.toList 0).drop j with
        | nil =>
          rw [hc] at hP
          have hk := indexByte_none hP
          have hjl : (fposF qs.data.toList 0).length ≤ j := List.drop_eq_nil_iff.1 hc
          have hHI := HI0.out
          have hqr : q < r.feeds := by omega
          have hfb := feedAt_lt r hqr
          have hfin := feed_right l qs.data.toList r hqr
          rw [show l.feeds + (fpos qs.data.toList).length + q = idx from by have := HID.out; show l.feeds + (fposF qs.data.toList 0).length + q = idx; omega, z2] at hfin
          obtain ⟨fr, hfr⟩ : ∃ fr, r.feedAt q = fr := ⟨_, rfl⟩
          rw [hfr] at hfb hfin
          have HK := Lib.hid hk
          have HQR := Lib.hid hqr
          have HFR := Lib.hid hfr
          have hw1 : IntKind.i64.wrap ((l.size : Int) + (qs.size : Int)) = (l.size : Int) + (qs.size : Int) := IntWalk.i64_in _ (by omega)
          have hw2 : IntKind.i64.wrap ((l.size : Int) + (qs.size : Int) + (fr : Int)) = (l.size : Int) + (qs.size : Int) + (fr : Int) := IntWalk.i64_in _ (by omega)
          have hfin2 : (((Tr.node l qs.data.toList r).feedAt idx : Nat) : Int) = (l.size : Int) + (qs.size : Int) + (fr : Int) := by omega
          have HFIN := Lib.hid hfin2
          clear hP hk hc hex hjl hq hj hHI hqr hfr hfin hfin2 hjp
          go_wp2_with (go_at_call 58; refine (sindex_any _ _).mono ?_; rw [HK.out]; rintro e w3 ⟨rfl, rfl⟩)
          go_region_held3 (fun w' => w'.cell? ⟨b, 0, none⟩ = some (Value.pointer pl) ∧ w'.cell? ⟨b, 1, none⟩ = some (Value.pointer pr) ∧ w'.cell? ⟨b, 2, none⟩ = some (Value.string qs))
            (first | go_keep)
            (first
              | (go_at_call 36; refine (len_any (hl.drewN _)).mono ?_; rintro e w4 ⟨rfl, rfl⟩)
              | (go_at_call 47; refine (IHR.out _ q (hr.drewN _) HQR.out).mono ?_; rw [HFR.out]; rintro e w5 ⟨rfl, n5, rfl⟩))
          all_goals
            go_wp2_with fail
            go_ret
            exact ⟨by rw [HFIN.out]; rfl, _, rfl⟩
        | cons p rest =>
          rw [hc] at hP
          have hk := indexByte_some hP
          obtain ⟨k1, k2, k3⟩ := fposF_head hP
          have hl2 : (qs.extract a qs.size).data.toList.length = qs.size - a := by simp
          have hpq : p < qs.size := by omega
          rw [hex, List.drop_drop, show a + (p + 1 - a) = p + 1 from by omega] at k3
          have hjP : j < (fposF qs.data.toList 0).length := by
            rcases Nat.lt_or_ge j (fposF qs.data.toList 0).length with h | h
            · exact h
            · rw [List.drop_eq_nil_of_le h] at hc; cases hc
          rw [List.drop_eq_getElem_cons hjP] at hc
          injection hc with hc1 hc2
          rw [← hc2] at k3
          obtain ⟨d, hd⟩ : ∃ d : Nat, p - a = d := ⟨_, rfl⟩
          rw [hd] at hk
          have HK := Lib.hid hk
          have HQ := Lib.hid hq
          have HJ := Lib.hid hj
          have HJP := Lib.hid hjP
          have HC := Lib.hid hc1
          have HC3 := Lib.hid k3
          have hda : a + d = p := by omega
          have hdI : (a : Int) + (d : Int) = (p : Int) := by omega
          have hd2 : (a : Int) + ((d : Int) + 1) = (p : Int) + 1 := by omega
          have hdb : d ≤ 200000 := by omega
          have hsl : (l.size : Int) + (a : Int) + (d : Int) = (l.size : Int) + (p : Int) := by omega
          clear hP hk hex hq hj hc1 hc2 k3 hjp k1 k2 hl2
          by_cases hq0 : q = 0
          · subst hq0
            go_wp2_with (first
              | (go_at_call 58; refine (sindex_any _ _).mono ?_; rw [HK.out]; rintro e w3 ⟨rfl, rfl⟩)
              | (go_at_call 36; refine (len_any (hl.drewN _)).mono ?_; rintro e w4 ⟨rfl, rfl⟩))
            go_ret
            have hij : i0 = j := by have := HQ.out; have := HJ.out; omega
            have hjp2 : j < (fpos qs.data.toList).length := HJP.out
            have hfm := feed_mid l qs.data.toList r hjp2
            have hc' : (fpos qs.data.toList)[j]? = some p := by
              show (fposF qs.data.toList 0)[j]? = some p
              rw [List.getElem?_eq_getElem HJP.out, HC.out]
            rw [List.getD_eq_getElem?_getD, hc'] at hfm
            have hfm2 : (Tr.node l qs.data.toList r).feedAt idx = l.size + p := by
              rw [HID.out, hij, hfm]
              rfl
            have hfm3 : (((Tr.node l qs.data.toList r).feedAt idx : Nat) : Int) = (l.size : Int) + (p : Int) := by omega
            exact ⟨by rw [hfm3]; rfl, _, rfl⟩
          · have hqn : ((q : Int) == 0) = false := by rw [beq_eq_false_iff_ne]; omega
            go_wp2_with (first
              | (go_at_call 58; refine (sindex_any _ _).mono ?_; rw [HK.out]; rintro e w3 ⟨rfl, rfl⟩))
            refine ⟨⟨j + 1, p + 1, m, ?_, HJP.out, ?_, by go_num, by omega, HC3.out, rfl⟩, ?_⟩
            · have := HQ.out; have := HJ.out; omega
            · rw [show ((i0 - (j + 1) : Nat) : Int) = (q : Int) - 1 from by have := HQ.out; have := HJ.out; omega]
            · simp [intOf]; omega
end Go.Proofs.Ytbpokgjahlnfhaa
