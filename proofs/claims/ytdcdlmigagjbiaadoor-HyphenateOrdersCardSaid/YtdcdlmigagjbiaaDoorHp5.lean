/- The law Points. -/
import Derived.Test.YtdcdlmigagjbiaaDoorHs7
import Derived.Deep.DeepCutAuto
import Derived.Deep.RegionHeld3
import Derived.Deep.QuietTactic
import Derived.BigQuiet
import Derived.IntWalk
namespace Go.Proofs.YtdcdlmigagjbiaaDoor
open Go.RowKit Go.Maps
theorem points_len {pats exs : List (List UInt8)} {left right : Int} (hx : ∀ s, s ∈ exs → s.length ≤ 100) (t : List UInt8) : (pointsP (newS pats exs left right) t).length ≤ 1000000 := by
  unfold pointsP
  split
  · simp
  · rename_i l hl
    obtain ⟨_, _, _, h64⟩ := wordP_some hl
    refine Nat.le_trans (List.length_filter_le _ _) ?_
    unfold allP
    split
    · rename_i p hp
      obtain ⟨s, hs, e⟩ := List.mem_map.1 (exLook_mem hp)
      have h1 := exP_plen (foldP s)
      have e2 : (exP (foldP s)).2.1 = p := congrArg Prod.snd e
      rw [e2, foldP_len] at h1
      have := hx s hs
      omega
    · have h1 := oddsG_len (levelsP (newS pats exs left right).pats l) 0
      rw [levelsP_len] at h1
      omega
set_option maxRecDepth 100000 in
set_option maxHeartbeats 8000000 in
theorem hpts_law (D : DictV) (t : List UInt8) (most : Int) (w : World) (H : D.At w) : Calls Tryd.prog 9 #[D.val, .string ⟨t.toArray⟩, .int .i64 most] w (KnPost w) := by
  obtain ⟨pv, ev, pats, exs, left, right⟩ := D
  obtain ⟨hp0, he0, hlb, hrb⟩ := id H
  have hp : Strs w pv pats := hp0
  have he : Strs w ev exs := he0
  have hlb : -9223372036854775808 ≤ left ∧ left ≤ 9223372036854775807 := hlb
  have hrb : -9223372036854775808 ≤ right ∧ right ≤ 9223372036854775807 := hrb
  have HPS := Lib.hid hp
  have HES := Lib.hid he
  have HH := Lib.hid H
  clear hp he hp0 he0 H
  obtain ⟨pao, pcap, hpv, _⟩ := id HPS.out
  obtain ⟨eao, ecap, hev, _⟩ := id HES.out
  subst hpv hev
  show Calls Tryd.prog 9 #[.agg #[.slice pao pats.length pcap, .slice eao exs.length ecap, .int .i64 left, .int .i64 right], .string ⟨t.toArray⟩, .int .i64 most] w (KnPost w)
  have HBK := Lib.hid (Blk.new w 44 #[.slice pao pats.length pcap, .slice eao exs.length ecap, .int .i64 left, .int .i64 right])
  have HBW := Lib.hid ((Below.refl w.heap.size w).alloc (Nat.le_refl _) (.cells #[.slice pao pats.length pcap, .slice eao exs.length ecap, .int .i64 left, .int .i64 right] 44))
  obtain ⟨W, hW⟩ : ∃ W, w.alloc (.cells #[.slice pao pats.length pcap, .slice eao exs.length ecap, .int .i64 left, .int .i64 right] 44) = W := ⟨_, rfl⟩
  rw [hW] at HBK HBW
  have hws := HBW.out.size
  have HD := Lib.hid (HH.out.below HBW.out)
  have HSM := Lib.hid (fun (w : World) h => small_any ⟨.slice pao pats.length pcap, .slice eao exs.length ecap, pats, exs, left, right⟩ w h)
  cases hsm : smallP pats exs with
  | false =>
    have HSF := Lib.hid (show smallP (DictV.mk (.slice pao pats.length pcap) (.slice eao exs.length ecap) pats exs left right).pats (DictV.mk (.slice pao pats.length pcap) (.slice eao exs.length ecap) pats exs left right).exs = false from hsm)
    clear hsm
    go_enter Tryd.func9, Tryd.ntmps9
    go_wp2_with (first
      | (go_at_call 12; have HB0 := HB2; refine (known_any _).mono ?_; unfold KnPost; rintro e w9 ⟨rfl, hb9⟩; have HB9 := Lib.hid (HB2.out.trans (hb9.mono HB2.out.size)); clear hb9)
      | (go_at_call 12; refine (known_any _).mono ?_; unfold KnPost; rintro e w1 ⟨rfl, hb1⟩; have HB1 := Lib.hid hb1; obtain ⟨c0, c1, c2, c3⟩ := (HBK.out.below hb1 HBK.out.lt).four; clear hb1)
      | (go_at_call 24; refine (HSM.out _ (HD.out.below HB1.out)).mono ?_; unfold BoolPost; rw [HSF.out]; rintro e w2 ⟨rfl, hb2⟩; have HB2 := Lib.hid (HB1.out.trans (hb2.mono HB1.out.size)); obtain ⟨c0, c1, c2, c3⟩ := (HBK.out.below HB2.out HBK.out.lt).four; clear hb2))
    refine bodyPost_ret (v := .bool true) (by simp [results, Tryd.f9, go_sem]) rfl ⟨rfl, HBW.out.trans (HB9.out.mono hws)⟩
  | true =>
    obtain ⟨b1, b2, b3, b4⟩ := smallP_iff.1 hsm
    have HSF := Lib.hid (show smallP (DictV.mk (.slice pao pats.length pcap) (.slice eao exs.length ecap) pats exs left right).pats (DictV.mk (.slice pao pats.length pcap) (.slice eao exs.length ecap) pats exs left right).exs = true from hsm)
    have HC := Lib.hid (fun (w : World) h => check_any ⟨.slice pao pats.length pcap, .slice eao exs.length ecap, pats, exs, left, right⟩ w h (fun s hs => by have := b3 s hs; omega) (fun s hs => by have := b4 s hs; omega))
    have HPL := Lib.hid b3
    have HEL := Lib.hid b4
    clear hsm b3 b4
    by_cases h0 : newE pats exs left right = 0
    · have HNE := Lib.hid (show newE (DictV.mk (.slice pao pats.length pcap) (.slice eao exs.length ecap) pats exs left right).pats (DictV.mk (.slice pao pats.length pcap) (.slice eao exs.length ecap) pats exs left right).exs (DictV.mk (.slice pao pats.length pcap) (.slice eao exs.length ecap) pats exs left right).left (DictV.mk (.slice pao pats.length pcap) (.slice eao exs.length ecap) pats exs left right).right = 0 from h0)
      have HN0 := Lib.hid h0
      clear h0
      by_cases h200 : 200 < t.length
      · have d200 : decide (200 < t.length) = true := by simp [h200]
        go_enter Tryd.func9, Tryd.ntmps9
        go_wp2_with (first
          | (go_at_call 12; have HB0 := HB3; refine (known_any _).mono ?_; unfold KnPost; rintro e w9 ⟨rfl, hb9⟩; have HB9 := Lib.hid (HB3.out.trans (hb9.mono HB3.out.size)); clear hb9)
          | (go_at_call 12; refine (known_any _).mono ?_; unfold KnPost; rintro e w1 ⟨rfl, hb1⟩; have HB1 := Lib.hid hb1; obtain ⟨c0, c1, c2, c3⟩ := (HBK.out.below hb1 HBK.out.lt).four; clear hb1)
          | (go_at_call 24; refine (HSM.out _ (HD.out.below HB1.out)).mono ?_; unfold BoolPost; rw [HSF.out]; rintro e w2 ⟨rfl, hb2⟩; have HB2 := Lib.hid (HB1.out.trans (hb2.mono HB1.out.size)); obtain ⟨c0, c1, c2, c3⟩ := (HBK.out.below HB2.out HBK.out.lt).four; clear hb2)
          | (go_at_call 26; refine (HC.out _ (HD.out.below HB2.out)).mono ?_; unfold NumPost; rw [HNE.out]; rintro e w3 ⟨rfl, hb3⟩; have HB3 := Lib.hid (HB2.out.trans (hb3.mono HB2.out.size)); obtain ⟨c0, c1, c2, c3⟩ := (HBK.out.below HB3.out HBK.out.lt).four; clear hb3))
        refine bodyPost_ret (v := .bool true) (by simp [results, Tryd.f9, go_sem]) rfl ⟨rfl, HBW.out.trans (HB9.out.mono hws)⟩
      · have d200 : decide (200 < t.length) = false := by simp [h200]
        have ht200 : t.length ≤ 200 := by omega
        obtain ⟨hl1, hl64, hr1, hr64⟩ := rangeB_no (newE_zero HN0.out).2.2.2.2.2
        have HMD := Lib.hid (fun (w : World) h => made_yes ⟨.slice pao pats.length pcap, .slice eao exs.length ecap, pats, exs, left, right⟩ w h (fun s hs => by have := HPL.out s hs; omega) (fun s hs => by have := HEL.out s hs; omega) HN0.out)
        have HGD := Lib.hid (good_new HN0.out (fun s hs => by have := HEL.out s hs; omega))
        have HDP := Lib.hid (fun (w : World) (h : (DictV.mk (.slice pao pats.length pcap) (.slice eao exs.length ecap) pats exs left right).At w) => dpoints_any ⟨.slice pao pats.length pcap, .slice eao exs.length ecap, pats, exs, left, right⟩ w h t (by omega) (fun s hs => by have := HPL.out s hs; omega) (fun s hs => by have := HEL.out s hs; omega) HN0.out)
        have HPA := Lib.hid (fun (w : World) (B hb : Nat) (H : Hyph w B hb (newS pats exs left right)) => hpoints_any H HGD.out (t := t) (by omega))
        have HLA := Lib.hid (fun (w : World) (B hb : Nat) (H : Hyph w B hb (newS pats exs left right)) => last_any H HGD.out (t := t) (by omega) most)
        have hpl := points_len (pats := pats) (exs := exs) (left := left) (right := right) (fun s hs => HEL.out s hs) (foldP t)
        obtain ⟨ps, hps⟩ : ∃ ps, pointsP (newS pats exs left right) (foldP t) = ps := ⟨_, rfl⟩
        have HDP2 := Lib.hid (show ∀ w, (DictV.mk (.slice pao pats.length pcap) (.slice eao exs.length ecap) pats exs left right).At w → Calls Tryd.prog 33 #[(DictV.mk (.slice pao pats.length pcap) (.slice eao exs.length ecap) pats exs left right).val, .string ⟨t.toArray⟩] w (LevPost ps w) by rw [← hps]; exact HDP.out)
        rw [hps] at HPA HLA hpl
        clear hps HDP
        obtain ⟨ln, lb, hlast⟩ : ∃ n b, lastP most ps = (n, b) := ⟨_, _, rfl⟩
        rw [hlast] at HLA
        have HLS := Lib.hid hlast
        clear hlast
        go_enter Tryd.func9, Tryd.ntmps9
        go_wp2_with (first
          | (go_at_call 12; refine (known_any _).mono ?_; unfold KnPost; rintro e w1 ⟨rfl, hb1⟩; have HB1 := Lib.hid hb1; obtain ⟨c0, c1, c2, c3⟩ := (HBK.out.below hb1 HBK.out.lt).four; clear hb1)
          | (go_at_call 24; refine (HSM.out _ (HD.out.below HB1.out)).mono ?_; unfold BoolPost; rw [HSF.out]; rintro e w2 ⟨rfl, hb2⟩; have HB2 := Lib.hid (HB1.out.trans (hb2.mono HB1.out.size)); obtain ⟨c0, c1, c2, c3⟩ := (HBK.out.below HB2.out HBK.out.lt).four; clear hb2)
          | (go_at_call 26; refine (HC.out _ (HD.out.below HB2.out)).mono ?_; unfold NumPost; rw [HNE.out]; rintro e w3 ⟨rfl, hb3⟩; have HB3 := Lib.hid (HB2.out.trans (hb3.mono HB2.out.size)); obtain ⟨c0, c1, c2, c3⟩ := (HBK.out.below HB3.out HBK.out.lt).four; clear hb3)
          | (go_at_call 27; refine (HMD.out _ (HD.out.below HB3.out)).mono ?_; unfold MadeY; rintro e w4 ⟨hb, B, rfl, hb4, hh⟩; have HB4 := Lib.hid (HB3.out.trans (hb4.mono HB3.out.size)); have HY4 := Lib.hid hh; obtain ⟨c0, c1, c2, c3⟩ := (HBK.out.below HB4.out HBK.out.lt).four; clear hb4 hh)
          | (go_at_call 33; refine (HDP2.out _ (HD.out.below HB4.out)).mono ?_; unfold LevPost; rintro e w5 ⟨v5, rfl, hb5, hr5⟩; obtain ⟨vao, vcap, rfl⟩ := row_slice hr5; have HY5 := Lib.hid (HY4.out.below hb5); have HB5 := Lib.hid (HB4.out.trans (hb5.mono HB4.out.size)); have HR5 := Lib.hid (Ints.of_owns hr5); clear hb5 hr5)
          | (go_at_call 13; refine (HLA.out _ _ _ HY5.out).mono ?_; unfold LastPost; rintro e w6 ⟨rfl, hb6⟩; have HY6 := Lib.hid (HY5.out.below hb6); have HB6 := Lib.hid (HB5.out.trans (hb6.mono HB5.out.size)); have HR6 := Lib.hid (HR5.out.below hb6); clear hb6))
        go_loopw [12, 13, 14] (fun nv bv i wr => ∃ (k : Nat) (n : Int) (b : Bool), k ≤ ps.length ∧ nv = .int .i64 n ∧ bv = .bool b ∧ i = .int .i64 (k : Int) ∧ wr = w6 ∧ Hid (lastP most (ps.take k) = (n, b))) (fun _ _ i _ => ps.length - (intOf i).toNat)
        case atStart => exact ⟨0, 0, false, Nat.zero_le _, rfl, rfl, rfl, rfl, Lib.hid rfl⟩
        case round =>
          obtain ⟨k, n, b, hk, rfl, rfl, rfl, rfl, HL⟩ := hrel
          by_cases hlk : k < ps.length
          · obtain ⟨vb, vo, rfl, hvlt, hvc, hvl, hvm⟩ := ints_pos HR6.out (by omega)
            have hcell := hvc k hlk
            have htk := take_snoc ps 0 k hlk
            obtain ⟨x, hx⟩ : ∃ x, ps.getD k 0 = x := ⟨_, rfl⟩
            rw [hx] at hcell htk
            have hls := lastP_snoc most (ps.take k) x
            rw [← htk] at hls
            have HLQ := Lib.hid hls
            clear hvc hx htk hls
            by_cases g : x ≤ most
            · have HL2 := Lib.hid (show lastP most (ps.take (k + 1)) = (x, true) from by rw [HLQ.out, if_pos g])
              go_wp2_with fail
              exact ⟨⟨k + 1, x, true, hlk, by simp, by simp, by go_num, by simp, HL2⟩, by simp [intOf]; omega⟩
            · have HL2 := Lib.hid (show lastP most (ps.take (k + 1)) = (n, b) from by rw [HLQ.out, if_neg g]; exact HL.out)
              go_wp2_with fail
              exact ⟨⟨k + 1, n, b, hlk, by simp, by simp, by go_num, by simp, HL2⟩, by simp [intOf]; omega⟩
          · have hke : k = ps.length := by omega
            subst hke
            have hl : lastP most ps = (n, b) := by have := HL.out; rwa [List.take_length] at this
            rw [HLS.out] at hl
            injection hl with h1 h2
            subst h1 h2
            have HSE := Lib.hid (show (ps == ps) = true by simp)
            have hs6 := HB6.out.size
            clear HL
            go_wp2_with (first
              | (go_at_call 15; refine (HPA.out _ _ _ HY6.out).mono ?_; unfold LevPost; rintro e w7 ⟨v7, rfl, hb7, hr7⟩; have HB7 := Lib.hid (HB6.out.trans (hb7.mono hs6)); have HR7 := Lib.hid (Ints.of_owns hr7); have HRW := Lib.hid (HR6.out.below hb7); clear hb7 hr7)
              | (go_at_call 28; refine (same_any _ _ ps ps _ (by omega) (by omega) HR7.out HRW.out).mono ?_; unfold SamePost; rw [HSE.out]; rintro e w8 ⟨rfl, hb8⟩; have HB8 := Lib.hid (HB7.out.trans (hb8.mono HB7.out.size)); clear hb8))
            refine bodyPost_ret (v := .bool true) (by simp [results, Tryd.f9, go_sem]) rfl ⟨rfl, HBW.out.trans (HB8.out.mono hws)⟩
    · obtain ⟨n, hn⟩ : ∃ n, newE pats exs left right = n := ⟨_, rfl⟩
      have HNE := Lib.hid (show newE (DictV.mk (.slice pao pats.length pcap) (.slice eao exs.length ecap) pats exs left right).pats (DictV.mk (.slice pao pats.length pcap) (.slice eao exs.length ecap) pats exs left right).exs (DictV.mk (.slice pao pats.length pcap) (.slice eao exs.length ecap) pats exs left right).left (DictV.mk (.slice pao pats.length pcap) (.slice eao exs.length ecap) pats exs left right).right = n from hn)
      rw [hn] at h0
      clear hn
      have en0 : (((n : Nat) : Int) == 0) = false := by rw [beq_eq_false_iff_ne]; omega
      have en1 : (n = 0) = False := by simp [h0]
      go_enter Tryd.func9, Tryd.ntmps9
      go_wp2_with (first
        | (go_at_call 12; have HB0 := HB3; refine (known_any _).mono ?_; unfold KnPost; rintro e w9 ⟨rfl, hb9⟩; have HB9 := Lib.hid (HB3.out.trans (hb9.mono HB3.out.size)); clear hb9)
        | (go_at_call 12; refine (known_any _).mono ?_; unfold KnPost; rintro e w1 ⟨rfl, hb1⟩; have HB1 := Lib.hid hb1; obtain ⟨c0, c1, c2, c3⟩ := (HBK.out.below hb1 HBK.out.lt).four; clear hb1)
        | (go_at_call 24; refine (HSM.out _ (HD.out.below HB1.out)).mono ?_; unfold BoolPost; rw [HSF.out]; rintro e w2 ⟨rfl, hb2⟩; have HB2 := Lib.hid (HB1.out.trans (hb2.mono HB1.out.size)); obtain ⟨c0, c1, c2, c3⟩ := (HBK.out.below HB2.out HBK.out.lt).four; clear hb2)
        | (go_at_call 26; refine (HC.out _ (HD.out.below HB2.out)).mono ?_; unfold NumPost; rw [HNE.out]; rintro e w3 ⟨rfl, hb3⟩; have HB3 := Lib.hid (HB2.out.trans (hb3.mono HB2.out.size)); obtain ⟨c0, c1, c2, c3⟩ := (HBK.out.below HB3.out HBK.out.lt).four; clear hb3))
      refine bodyPost_ret (v := .bool true) (by simp [results, Tryd.f9, go_sem]) rfl ⟨rfl, HBW.out.trans (HB9.out.mono hws)⟩
theorem hpts_row {D : DictV} {v : Value} {w : World} (h : v = D.val ∧ D.At w) (a : ByteArray) (_ : a.size ≤ maxLen) (most : Int) (_ : -9223372036854775808 ≤ most ∧ most ≤ 9223372036854775807) : Calls Tryd.prog 9 #[v, .string a, .int .i64 most] w (KnPost w) := by
  obtain ⟨rfl, h⟩ := h
  have := hpts_law D a.data.toList most w h
  rw [str_back] at this
  exact this
end Go.Proofs.YtdcdlmigagjbiaaDoor
