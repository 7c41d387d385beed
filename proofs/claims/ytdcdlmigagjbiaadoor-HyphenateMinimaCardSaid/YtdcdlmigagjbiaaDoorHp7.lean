/- The law Minima. -/
import Derived.Test.YtdcdlmigagjbiaaDoorHs7
import Derived.Test.YtdcdlmigagjbiaaDoorHp5
import Derived.Deep.DeepCutAuto
import Derived.StillTailTactics
import Derived.BigRegion
import Derived.Deep.RegionHeld3
import Derived.Deep.QuietTactic
import Derived.BigQuiet
import Derived.IntWalk
namespace Go.Proofs.YtdcdlmigagjbiaaDoor
open Go.RowKit Go.Maps
theorem bad_word {t : List UInt8} (h : (U.bad t).isEmpty = false) : wordP (foldP t) = none := by
  unfold wordP letsP
  rw [valid_fold, h]
  rfl
set_option maxRecDepth 100000 in
set_option maxHeartbeats 8000000 in
theorem minima_law (D : DictV) (t : List UInt8) (x y : Nat) (hx : x < 256) (hy : y < 256) (w : World) (H : D.At w) : Calls Tryd.prog 10 #[D.val, .string ⟨t.toArray⟩, .agg #[.int .u8 (x : Int), .int .u8 (y : Int)]] w (KnPost w) := by
  obtain ⟨pv, ev, pats, exs, left, right⟩ := D
  obtain ⟨hp0, he0, hlb, hrb⟩ := id H
  have hp : Strs w pv pats := hp0
  have he : Strs w ev exs := he0
  have hlb : -9223372036854775808 ≤ left ∧ left ≤ 9223372036854775807 := hlb
  have hrb : -9223372036854775808 ≤ right ∧ right ≤ 9223372036854775807 := hrb
  have HPS := Lib.hid hp
  have HES := Lib.hid he
  have HH := Lib.hid H
  clear hp he hp0 he0 H
  obtain ⟨pao, pcap, hpv, _⟩ := id HPS.out
  obtain ⟨eao, ecap, hev, _⟩ := id HES.out
  subst hpv hev
  show Calls Tryd.prog 10 #[.agg #[.slice pao pats.length pcap, .slice eao exs.length ecap, .int .i64 left, .int .i64 right], .string ⟨t.toArray⟩, .agg #[.int .u8 (x : Int), .int .u8 (y : Int)]] w (KnPost w)
  have HBK := Lib.hid ((Blk.new w 44 #[.slice pao pats.length pcap, .slice eao exs.length ecap, .int .i64 left, .int .i64 right]).alloc (.cells #[.int .u8 (x : Int), .int .u8 (y : Int)] 60))
  have HBM := Lib.hid (Blk.new (w.alloc (.cells #[.slice pao pats.length pcap, .slice eao exs.length ecap, .int .i64 left, .int .i64 right] 44)) 60 #[.int .u8 (x : Int), .int .u8 (y : Int)])
  rw [show (w.alloc (.cells #[.slice pao pats.length pcap, .slice eao exs.length ecap, .int .i64 left, .int .i64 right] 44)).heap.size = w.heap.size + 1 from by simp] at HBM
  have HBW := Lib.hid ((Below.refl w.heap.size w).alloc (Nat.le_refl _) (.cells #[.slice pao pats.length pcap, .slice eao exs.length ecap, .int .i64 left, .int .i64 right] 44) |>.alloc (by simp) (.cells #[.int .u8 (x : Int), .int .u8 (y : Int)] 60))
  obtain ⟨W, hW⟩ : ∃ W, (w.alloc (.cells #[.slice pao pats.length pcap, .slice eao exs.length ecap, .int .i64 left, .int .i64 right] 44)).alloc (.cells #[.int .u8 (x : Int), .int .u8 (y : Int)] 60) = W := ⟨_, rfl⟩
  rw [hW] at HBK HBW HBM
  have hws := HBW.out.size
  have HD := Lib.hid (HH.out.below HBW.out)
  have HSM := Lib.hid (fun (w : World) h => small_any ⟨.slice pao pats.length pcap, .slice eao exs.length ecap, pats, exs, left, right⟩ w h)
  cases hsm : smallP pats exs with
  | false =>
    have HSF := Lib.hid (show smallP (DictV.mk (.slice pao pats.length pcap) (.slice eao exs.length ecap) pats exs left right).pats (DictV.mk (.slice pao pats.length pcap) (.slice eao exs.length ecap) pats exs left right).exs = false from hsm)
    clear hsm
    go_enter Tryd.func10, Tryd.ntmps10
    go_wp2_with (first
      | (go_at_call 12; have HB0 := HB2; refine (known_any _).mono ?_; unfold KnPost; rintro e w9 ⟨rfl, hb9⟩; have HB9 := Lib.hid (HB2.out.trans (hb9.mono HB2.out.size)); clear hb9)
      | (go_at_call 12; refine (known_any _).mono ?_; unfold KnPost; rintro e w1 ⟨rfl, hb1⟩; have HB1 := Lib.hid hb1; obtain ⟨c0, c1, c2, c3⟩ := (HBK.out.below hb1 HBK.out.lt).four; clear hb1)
      | (go_at_call 24; refine (HSM.out _ (HD.out.below HB1.out)).mono ?_; unfold BoolPost; rw [HSF.out]; rintro e w2 ⟨rfl, hb2⟩; have HB2 := Lib.hid (HB1.out.trans (hb2.mono HB1.out.size)); obtain ⟨c0, c1, c2, c3⟩ := (HBK.out.below HB2.out HBK.out.lt).four; clear hb2))
    refine bodyPost_ret (v := .bool true) (by simp [results, Tryd.f10, go_sem]) rfl ⟨rfl, HBW.out.trans (HB9.out.mono hws)⟩
  | true =>
    obtain ⟨b1, b2, b3, b4⟩ := smallP_iff.1 hsm
    have HSF := Lib.hid (show smallP (DictV.mk (.slice pao pats.length pcap) (.slice eao exs.length ecap) pats exs left right).pats (DictV.mk (.slice pao pats.length pcap) (.slice eao exs.length ecap) pats exs left right).exs = true from hsm)
    have HC := Lib.hid (fun (w : World) h => check_any ⟨.slice pao pats.length pcap, .slice eao exs.length ecap, pats, exs, left, right⟩ w h (fun s hs => by have := b3 s hs; omega) (fun s hs => by have := b4 s hs; omega))
    have HPL := Lib.hid b3
    have HEL := Lib.hid b4
    clear hsm b3 b4
    by_cases h0 : newE pats exs left right = 0
    · have HNE := Lib.hid (show newE (DictV.mk (.slice pao pats.length pcap) (.slice eao exs.length ecap) pats exs left right).pats (DictV.mk (.slice pao pats.length pcap) (.slice eao exs.length ecap) pats exs left right).exs (DictV.mk (.slice pao pats.length pcap) (.slice eao exs.length ecap) pats exs left right).left (DictV.mk (.slice pao pats.length pcap) (.slice eao exs.length ecap) pats exs left right).right = 0 from h0)
      have HN0 := Lib.hid h0
      clear h0
      by_cases h200 : 200 < t.length
      · have d200 : decide (200 < t.length) = true := by simp [h200]
        go_enter Tryd.func10, Tryd.ntmps10
        go_wp2_with (first
          | (go_at_call 12; have HB0 := HB3; refine (known_any _).mono ?_; unfold KnPost; rintro e w9 ⟨rfl, hb9⟩; have HB9 := Lib.hid (HB3.out.trans (hb9.mono HB3.out.size)); clear hb9)
          | (go_at_call 12; refine (known_any _).mono ?_; unfold KnPost; rintro e w1 ⟨rfl, hb1⟩; have HB1 := Lib.hid hb1; obtain ⟨c0, c1, c2, c3⟩ := (HBK.out.below hb1 HBK.out.lt).four; clear hb1)
          | (go_at_call 24; refine (HSM.out _ (HD.out.below HB1.out)).mono ?_; unfold BoolPost; rw [HSF.out]; rintro e w2 ⟨rfl, hb2⟩; have HB2 := Lib.hid (HB1.out.trans (hb2.mono HB1.out.size)); obtain ⟨c0, c1, c2, c3⟩ := (HBK.out.below HB2.out HBK.out.lt).four; clear hb2)
          | (go_at_call 26; refine (HC.out _ (HD.out.below HB2.out)).mono ?_; unfold NumPost; rw [HNE.out]; rintro e w3 ⟨rfl, hb3⟩; have HB3 := Lib.hid (HB2.out.trans (hb3.mono HB2.out.size)); obtain ⟨c0, c1, c2, c3⟩ := (HBK.out.below HB3.out HBK.out.lt).four; clear hb3))
        refine bodyPost_ret (v := .bool true) (by simp [results, Tryd.f10, go_sem]) rfl ⟨rfl, HBW.out.trans (HB9.out.mono hws)⟩
      · have d200 : decide (200 < t.length) = false := by simp [h200]
        have ht200 : t.length ≤ 200 := by omega
        obtain ⟨hl1, hl64, hr1, hr64⟩ := rangeB_no (newE_zero HN0.out).2.2.2.2.2
        have HMD := Lib.hid (fun (w : World) h => made_yes ⟨.slice pao pats.length pcap, .slice eao exs.length ecap, pats, exs, left, right⟩ w h (fun s hs => by have := HPL.out s hs; omega) (fun s hs => by have := HEL.out s hs; omega) HN0.out)
        have HGD := Lib.hid (good_new HN0.out (fun s hs => by have := HEL.out s hs; omega))
        obtain ⟨l2, hl2⟩ : ∃ l2, min (64 : Int) (left + (x : Int) % 8) = l2 := ⟨_, rfl⟩
        obtain ⟨r2, hr2⟩ : ∃ r2, min (64 : Int) (right + (y : Int) % 8) = r2 := ⟨_, rfl⟩
        have b1' : 1 ≤ l2 := by omega
        have b2' : l2 ≤ 64 := by omega
        have b3' : 1 ≤ r2 := by omega
        have b4' : r2 ≤ 64 := by omega
        have b5' : left ≤ l2 := by omega
        have b6' : right ≤ r2 := by omega
        have HN2 := Lib.hid (newE_min (l' := l2) (r' := r2) HN0.out ⟨b1', b2'⟩ ⟨b3', b4'⟩)
        have HMD2 := Lib.hid (fun (w : World) h => made_yes ⟨.slice pao pats.length pcap, .slice eao exs.length ecap, pats, exs, l2, r2⟩ w h (fun s hs => by have := HPL.out s hs; omega) (fun s hs => by have := HEL.out s hs; omega) HN2.out)
        have HGD2 := Lib.hid (good_new HN2.out (fun s hs => by have := HEL.out s hs; omega))
        have HPA := Lib.hid (fun (w : World) (B hb : Nat) (H : Hyph w B hb (newS pats exs left right)) => hpoints_any H HGD.out (t := t) (by omega))
        have HPB := Lib.hid (fun (w : World) (B hb : Nat) (H : Hyph w B hb (newS pats exs l2 r2)) => hpoints_any H HGD2.out (t := t) (by omega))
        have hpl := points_len (pats := pats) (exs := exs) (left := left) (right := right) (fun s hs => HEL.out s hs) (foldP t)
        have HPM := Lib.hid (points_min (pats := pats) (exs := exs) b5' b6' (foldP t))
        have HXB := Lib.hid (fun x (h : x ∈ pointsP (newS pats exs left right) (foldP t)) => points_bound (st := newS pats exs left right) (t := foldP t) (x := x) h)
        obtain ⟨ps, hps⟩ : ∃ ps, pointsP (newS pats exs left right) (foldP t) = ps := ⟨_, rfl⟩
        rw [hps] at HXB
        obtain ⟨i0, hi, hz0, hz1, hz2⟩ := info_parts int_info
        have HBADW := Lib.hid (fun h => show ps = [] by rw [← hps]; exact points_none _ (bad_word (t := t) h))
        rw [hps] at HPA HPM hpl
        rw [HPM.out] at HPB
        have HL2 := Lib.hid hl2
        have HR2 := Lib.hid hr2
        clear hl2 hr2 HPM hps
        go_enter Tryd.func10, Tryd.ntmps10
        go_wp2_with (first
          | (go_at_call 12; refine (known_any _).mono ?_; unfold KnPost; rintro e w1 ⟨rfl, hb1⟩; have HB1 := Lib.hid hb1; obtain ⟨c0, c1, c2, c3⟩ := (HBK.out.below hb1 HBK.out.lt).four; clear hb1)
          | (go_at_call 24; refine (HSM.out _ (HD.out.below HB1.out)).mono ?_; unfold BoolPost; rw [HSF.out]; rintro e w2 ⟨rfl, hb2⟩; have HB2 := Lib.hid (HB1.out.trans (hb2.mono HB1.out.size)); obtain ⟨c0, c1, c2, c3⟩ := (HBK.out.below HB2.out HBK.out.lt).four; clear hb2)
          | (go_at_call 26; refine (HC.out _ (HD.out.below HB2.out)).mono ?_; unfold NumPost; rw [HNE.out]; rintro e w3 ⟨rfl, hb3⟩; have HB3 := Lib.hid (HB2.out.trans (hb3.mono HB2.out.size)); obtain ⟨c0, c1, c2, c3⟩ := (HBK.out.below HB3.out HBK.out.lt).four; clear hb3))
        obtain ⟨V, hV⟩ : ∃ V, w3.alloc (.cells #[.slice pao pats.length pcap, .slice eao exs.length ecap, .int .i64 left, .int .i64 right] 44) = V := ⟨_, rfl⟩
        simp only [hV]
        have HQ := Lib.hid (show Blk V w3.heap.size 44 #[.slice pao pats.length pcap, .slice eao exs.length ecap, .int .i64 left, .int .i64 right] by rw [← hV]; exact Blk.new _ _ _)
        have HBV := Lib.hid (show Below W.heap.size W V by rw [← hV]; exact HB3.out.alloc HB3.out.size _)
        clear c0 c1 c2 c3 hV
        obtain ⟨c0, c1, c2, c3⟩ := (HBK.out.below HBV.out HBK.out.lt).four
        obtain ⟨q0, q1, q2, q3⟩ := HQ.out.four
        have HMV := Lib.hid (HBM.out.below HBV.out HBM.out.lt)
        have m0 := HMV.out.cell 0
        have m1 := HMV.out.cell 1
        have g2 := HQ.out.frozen 2
        have g3 := HQ.out.frozen 3
        simp at m0 m1
        have hs3 := HB3.out.size
        go_region
        rw [HL2.out, HR2.out]
        obtain ⟨Z, hZ⟩ : ∃ Z, ((V.setCell ⟨w3.heap.size, 2, none⟩ (.int .i64 l2)).setCell ⟨w3.heap.size, 3, none⟩ (.int .i64 r2)).drew = Z := ⟨_, rfl⟩
        simp only [hZ]
        have HZQ := Lib.hid (show Blk Z w3.heap.size 44 #[.slice pao pats.length pcap, .slice eao exs.length ecap, .int .i64 l2, .int .i64 r2] by rw [← hZ]; exact Blk.drew ((HQ.out.set_ 2 (.int .i64 l2)).set_ 3 (.int .i64 r2)))
        have HBZ := Lib.hid (show Below W.heap.size W Z by rw [← hZ]; exact below_drew ((HBV.out.setCell (p := ⟨w3.heap.size, 2, none⟩) hs3 _).setCell (p := ⟨w3.heap.size, 3, none⟩) hs3 _))
        clear c0 c1 c2 c3 q0 q1 q2 q3 m0 m1 g2 g3 hZ HQ HMV HBV
        obtain ⟨c0, c1, c2, c3⟩ := (HBK.out.below HBZ.out HBK.out.lt).four
        have hsz := HBZ.out.size
        go_wp2_with fail
        go_at_call 27
        refine (HMD.out _ (HD.out.below HBZ.out)).mono ?_
        unfold MadeY
        rintro e w4 ⟨hb, B, rfl, hb4, hh⟩
        have HB4 := Lib.hid (HBZ.out.trans (hb4.mono hsz))
        have HY4 := Lib.hid hh
        have HQ4 := Lib.hid (HZQ.out.below hb4 HZQ.out.lt)
        clear hb4 hh c0 c1 c2 c3
        have hs4 := HB4.out.size
        have hq4 := HQ4.out.lt
        obtain ⟨c0, c1, c2, c3⟩ := HQ4.out.four
        go_wp2_with fail
        go_at_call 27
        refine (HMD2.out _ ⟨(HD.out.below HB4.out).pats, (HD.out.below HB4.out).exs, ⟨by show _ ≤ l2; omega, by show l2 ≤ _; omega⟩, ⟨by show _ ≤ r2; omega, by show r2 ≤ _; omega⟩⟩).mono ?_
        unfold MadeY
        rintro e w5 ⟨hb', B', rfl, hb5, hh⟩
        have HB5 := Lib.hid (HB4.out.trans (hb5.mono hs4))
        have HY5 := Lib.hid (HY4.out.below hb5)
        have HZ5 := Lib.hid hh
        have HQ5 := Lib.hid (HQ4.out.below hb5 hq4)
        clear hb5 hh c0 c1 c2 c3
        have hs5 := HB5.out.size
        have hq5 := HQ5.out.lt
        cases hv : (U.bad t).isEmpty with
        | false =>
          have hpe := HBADW.out hv
          have HCT := Lib.hid (show countP (⟨t.toArray⟩ : ByteArray).data.toList = (0, 12) from countP_bad t hv)
          subst hpe
          clear hv
          go_wp2_with (first
            | (go_at_call 34; (with_reducible refine (count_at ⟨t.toArray⟩ (0, 12) (by rw [ba_size]; omega) HCT _).mono ?_); rintro e w7 ⟨rfl, rfl⟩)
            | (go_at_call 15; refine (HPA.out _ _ _ HY5.out).mono ?_; unfold LevPost; rintro e w6 ⟨v6, rfl, hb6, hr6⟩; obtain ⟨vao, vcap, rfl⟩ := row_slice (k := 0) hr6; have HB6 := Lib.hid (HB5.out.trans (hb6.mono hs5)); have HZ6 := Lib.hid (HZ5.out.below hb6); clear hb6 hr6))
          have hs6 := HB6.out.size
          go_loopw [15, 16] (fun ov i wr => ov = .slice none 0 0 ∧ i = .int .i64 0 ∧ wr = w6) (fun _ _ _ => 0)
          case atStart => exact ⟨rfl, rfl, rfl⟩
          case round =>
            obtain ⟨rfl, rfl, rfl⟩ := hrel
            have HSE := Lib.hid (show (([] : List Int) == []) = true by rfl)
            go_wp2_with (first
              | (go_at_call 15; refine (HPB.out _ _ _ HZ6.out).mono ?_; unfold LevPost; rintro e w8 ⟨v8, rfl, hb8, hr8⟩; have HB8 := Lib.hid (HB6.out.trans (hb8.mono hs6)); have HR8 := Lib.hid (show Ints w8 v8 [] from Ints.of_owns hr8); clear hb8 hr8)
              | (go_at_call 28; refine (same_any _ _ [] [] _ (by simp) (by simp) HR8.out (Ints.of_owns (int_nil _ 0))).mono ?_; unfold SamePost; rw [HSE.out]; rintro e w9 ⟨rfl, hb9⟩; have HB9 := Lib.hid (HB8.out.trans (hb9.mono HB8.out.size)); clear hb9))
            refine bodyPost_ret (v := .bool true) (by simp [results, Tryd.f10, go_sem]) rfl ⟨rfl, HBW.out.trans (HB9.out.mono hws)⟩
        | true =>
          obtain ⟨n, hn⟩ : ∃ n, (ptsI (foldP t)).length = n := ⟨_, rfl⟩
          have hnt : n ≤ 200 := by
            have h1 := pts_fold_len hv
            have h2 : (ptsI t).length ≤ t.length := pts_len0 ⟨t.toArray⟩
            omega
          have HCT := Lib.hid (show countP (⟨t.toArray⟩ : ByteArray).data.toList = (n, 0) by
            have := countP_valid t hv
            rw [← pts_fold_len hv, hn] at this
            exact this)
          rw [hn] at HPB HXB
          have HXC := Lib.hid (show ∀ x, x ∈ ps → 1 ≤ x ∧ x ≤ 200 from fun x hx => by
            obtain ⟨_, h1, h2⟩ := HXB.out x hx
            have h1' : left ≤ x := h1
            have h2' : x ≤ (n : Int) - right := h2
            omega)
          clear hv hn HXB
          go_wp2_with (first
            | (go_at_call 34; (with_reducible refine (count_at ⟨t.toArray⟩ (n, 0) (by rw [ba_size]; omega) HCT _).mono ?_); rintro e w7 ⟨rfl, rfl⟩)
            | (go_at_call 15; refine (HPA.out _ _ _ HY5.out).mono ?_; unfold LevPost; rintro e w6 ⟨v6, rfl, hb6, hr6⟩; obtain ⟨vao, vcap, rfl⟩ := row_slice hr6; have HB6 := Lib.hid (HB5.out.trans (hb6.mono hs5)); have HZ6 := Lib.hid (HZ5.out.below hb6); have HQ6 := Lib.hid (HQ5.out.below hb6 hq5); have HR6 := Lib.hid (Ints.of_owns hr6); clear hb6 hr6))
          have hs6 := HB6.out.size
          have hq6 := HQ6.out.lt
          go_loopw [15, 16] (fun ov i wr => ∃ (k : Nat) (out : List Int), k ≤ ps.length ∧ i = .int .i64 (k : Int) ∧ Hid (out = (ps.take k).filter (keepP l2 r2 n)) ∧ out.length ≤ k ∧ Hid (IntRow wr w6.heap.size ov out) ∧ Hid (Below w6.heap.size w6 wr)) (fun _ i _ => ps.length - (intOf i).toNat)
          case atStart => exact ⟨0, [], Nat.zero_le _, rfl, Lib.hid rfl, Nat.zero_le _, Lib.hid (int_nil _ _), Lib.hid (Below.refl _ _)⟩
          case round =>
            obtain ⟨k, out, hk, rfl, HO, hol, HR, HB⟩ := hrel
            have hrs := HB.out.size
            obtain ⟨c0, c1, c2, c3⟩ := (HQ6.out.below HB.out hq6).four
            by_cases hlk : k < ps.length
            · obtain ⟨vb, vo, rfl, hvlt, hvc, hvl, hvm⟩ := ints_pos HR6.out (by omega)
              have hcell := (HB.out.cell (p := ⟨vb, vo + k, none⟩) hvlt).trans (hvc k hlk)
              have htk := take_snoc ps 0 k hlk
              obtain ⟨hx1, hx2⟩ := HXC.out _ (getD_mem hlk)
              obtain ⟨x, hx⟩ : ∃ x, ps.getD k 0 = x := ⟨_, rfl⟩
              rw [hx] at hcell htk hx1 hx2
              have HKP := Lib.hid (filter_snoc (keepP l2 r2 n) (ps.take k) x)
              rw [← htk, ← HO.out] at HKP
              clear hvc hx htk
              have d1k : decide (k < ps.length) = true := by simp [hlk]
              go_upto_region 15 with fail
              go_cut [105] (fun v w' => v = .bool (keepP l2 r2 n x) ∧ Below wr.heap.size wr w')
              case first =>
                have hsub : IntKind.i64.wrap ((n : Int) - x) = (n : Int) - x := IntWalk.i64_in _ (by omega)
                by_cases f1 : l2 ≤ x
                · have e1 : decide (l2 ≤ x) = true := by simp [f1]
                  by_cases f2 : r2 ≤ (n : Int) - x
                  · have e2 : decide (r2 ≤ (n : Int) - x) = true := by simp [f2]
                    have HKB := Lib.hid (show keepP l2 r2 n x = true by unfold keepP; rw [e1, decide_eq_true (by omega)]; rfl)
                    clear f1 f2
                    go_quiet (fail)
                    go_wp2_with fail
                    go_meet
                    case rel => exact ⟨by rw [HKB.out], below_drewN (Below.refl _ _) _⟩
                  · have e2 : decide (r2 ≤ (n : Int) - x) = false := by simp [f2]
                    have HKB := Lib.hid (show keepP l2 r2 n x = false by unfold keepP; rw [e1, decide_eq_false (by omega)]; rfl)
                    clear f1 f2
                    go_quiet (fail)
                    go_wp2_with fail
                    go_meet
                    case rel => exact ⟨by rw [HKB.out], below_drewN (Below.refl _ _) _⟩
                · have e1 : decide (l2 ≤ x) = false := by simp [f1]
                  have HKB := Lib.hid (show keepP l2 r2 n x = false by unfold keepP; rw [e1]; rfl)
                  clear f1
                  go_quiet (fail)
                  go_wp2_with fail
                  go_meet
                  case rel => exact ⟨by rw [HKB.out], below_drewN (Below.refl _ _) _⟩
              case rest =>
                obtain ⟨rfl, hb8⟩ := hcut
                have hs8 := hb8.size
                have HB8 := Lib.hid (HB.out.trans (hb8.mono hrs))
                have HR8 := Lib.hid (row_turn HR.out (Turn.ofBelow (F := []) hb8 (Nat.le_refl _)) (fun _ _ => by simp))
                have hcell8 := (hb8.cell (p := ⟨vb, vo + k, none⟩) (cell_lt hcell)).trans hcell
                clear hcell c0 c1 c2 c3 hb8
                cases hkp : keepP l2 r2 n x with
                | true =>
                  have HK2 := Lib.hid (show out ++ [x] = (ps.take (k + 1)).filter (keepP l2 r2 n) from by rw [HKP.out, if_pos hkp])
                  clear hkp
                  go_wp2_with (at_builtin; refine wpList_append_own_at _ rfl _ _ 26 rfl w6.heap.size 3 i0 (.int .i64 0) 1 8 Tryd.underlying26 hi hz0 hz1 hz2 rfl (by decide) u15 out.length (out.map (Value.int .i64)) rfl (World.ownsRow.alloc HR8.out _) ⟨wc.heap.size, 0, none⟩ 1 1 [.int .i64 x] rfl rfl (cell_one_new _ _ _) (by intro u hu; simp at hu; subst hu; rfl) (by unfold maxLen; omega) (by omega) (by simp; omega) ?_; intro pv3 w9 hown hg _ hat; obtain ⟨s1, _, _, s4, s5⟩ := row_app (u := .slice none 0 0) (m := []) (IntRow.nil _ w6.heap.size) (fun g _ => by simp [Value.ownBlock]) hown rfl hg hat; have S1 := Lib.hid s1; have S4 := Lib.hid (s4.toBelow (B := w6.heap.size) (fun i hi => row_base HR8.out i (by simpa using hi)) (by omega)); clear s1 s4 hown hg hat)
                  first
                    | exact ⟨⟨k + 1, out ++ [x], hlk, by go_num, HK2, by simp; omega, S1, Lib.hid (HB8.out.trans S4.out)⟩, by simp [intOf]; omega⟩
                    | (refine ⟨?_, by simp [intOf]; omega⟩; (repeat apply Exists.intro); exact ⟨⟨k + 1, out ++ [x], hlk, by go_num, HK2, by simp; omega, S1, Lib.hid (HB8.out.trans S4.out)⟩, rfl⟩)
                | false =>
                  have HK2 := Lib.hid (show out = (ps.take (k + 1)).filter (keepP l2 r2 n) from by rw [HKP.out, if_neg (by rw [hkp]; simp), List.append_nil])
                  clear hkp
                  go_wp2_with fail
                  first
                    | exact ⟨⟨k + 1, out, hlk, by go_num, HK2, by omega, HR8, HB8⟩, by simp [intOf]; omega⟩
                    | (refine ⟨?_, by simp [intOf]; omega⟩; (repeat apply Exists.intro); exact ⟨⟨k + 1, out, hlk, by go_num, HK2, by omega, HR8, HB8⟩, rfl⟩)
            · have hke : k = ps.length := by omega
              subst hke
              have hO2 : out = ps.filter (keepP l2 r2 n) := by rw [HO.out, List.take_length]
              rw [← hO2] at HPB
              have HSE := Lib.hid (show (out == out) = true by simp)
              have HZR := Lib.hid (HZ6.out.below HB.out)
              have HBR := Lib.hid (HB6.out.trans (HB.out.mono hs6))
              have hsr := HBR.out.size
              have HIR := Lib.hid (Ints.of_owns HR.out)
              have d2k : decide (ps.length < ps.length) = false := by simp
              clear hO2 HO HR HB
              go_wp2_with (first
                | (go_at_call 15; refine (HPB.out _ _ _ HZR.out).mono ?_; unfold LevPost; rintro e w8 ⟨v8, rfl, hb8, hr8⟩; have HB8 := Lib.hid (HBR.out.trans (hb8.mono hsr)); have HR8 := Lib.hid (Ints.of_owns hr8); have HI8 := Lib.hid (HIR.out.below hb8); clear hb8 hr8)
                | (go_at_call 28; refine (same_any _ _ out out _ (by omega) (by omega) HR8.out HI8.out).mono ?_; unfold SamePost; rw [HSE.out]; rintro e w9 ⟨rfl, hb9⟩; have HB9 := Lib.hid (HB8.out.trans (hb9.mono HB8.out.size)); clear hb9))
              refine bodyPost_ret (v := .bool true) (by simp [results, Tryd.f10, go_sem]) rfl ⟨rfl, HBW.out.trans (HB9.out.mono hws)⟩
    · obtain ⟨n, hn⟩ : ∃ n, newE pats exs left right = n := ⟨_, rfl⟩
      have HNE := Lib.hid (show newE (DictV.mk (.slice pao pats.length pcap) (.slice eao exs.length ecap) pats exs left right).pats (DictV.mk (.slice pao pats.length pcap) (.slice eao exs.length ecap) pats exs left right).exs (DictV.mk (.slice pao pats.length pcap) (.slice eao exs.length ecap) pats exs left right).left (DictV.mk (.slice pao pats.length pcap) (.slice eao exs.length ecap) pats exs left right).right = n from hn)
      rw [hn] at h0
      clear hn
      have en0 : (((n : Nat) : Int) == 0) = false := by rw [beq_eq_false_iff_ne]; omega
      have en1 : (n = 0) = False := by simp [h0]
      go_enter Tryd.func10, Tryd.ntmps10
      go_wp2_with (first
        | (go_at_call 12; have HB0 := HB3; refine (known_any _).mono ?_; unfold KnPost; rintro e w9 ⟨rfl, hb9⟩; have HB9 := Lib.hid (HB3.out.trans (hb9.mono HB3.out.size)); clear hb9)
        | (go_at_call 12; refine (known_any _).mono ?_; unfold KnPost; rintro e w1 ⟨rfl, hb1⟩; have HB1 := Lib.hid hb1; obtain ⟨c0, c1, c2, c3⟩ := (HBK.out.below hb1 HBK.out.lt).four; clear hb1)
        | (go_at_call 24; refine (HSM.out _ (HD.out.below HB1.out)).mono ?_; unfold BoolPost; rw [HSF.out]; rintro e w2 ⟨rfl, hb2⟩; have HB2 := Lib.hid (HB1.out.trans (hb2.mono HB1.out.size)); obtain ⟨c0, c1, c2, c3⟩ := (HBK.out.below HB2.out HBK.out.lt).four; clear hb2)
        | (go_at_call 26; refine (HC.out _ (HD.out.below HB2.out)).mono ?_; unfold NumPost; rw [HNE.out]; rintro e w3 ⟨rfl, hb3⟩; have HB3 := Lib.hid (HB2.out.trans (hb3.mono HB2.out.size)); obtain ⟨c0, c1, c2, c3⟩ := (HBK.out.below HB3.out HBK.out.lt).four; clear hb3))
      refine bodyPost_ret (v := .bool true) (by simp [results, Tryd.f10, go_sem]) rfl ⟨rfl, HBW.out.trans (HB9.out.mono hws)⟩
theorem minima_row {D : DictV} {v : Value} {w : World} (h : v = D.val ∧ D.At w) (a : ByteArray) (_ : a.size ≤ maxLen) (x y : Nat) (hx : x < 256) (hy : y < 256) : Calls Tryd.prog 10 #[v, .string a, .agg #[.int .u8 (x : Int), .int .u8 (y : Int)]] w (KnPost w) := by
  obtain ⟨rfl, h⟩ := h
  have := minima_law D a.data.toList x y hx hy w h
  rw [str_back] at this
  exact this
theorem minima_row2 {D : DictV} {v v2 : Value} {w : World} {x y : Nat} (h : v = D.val ∧ D.At w) (a : ByteArray) (ha : a.size ≤ maxLen) (h2 : v2 = .agg #[.int .u8 (x : Int), .int .u8 (y : Int)] ∧ x < 256 ∧ y < 256) : Calls Tryd.prog 10 #[v, .string a, v2] w (KnPost w) := by
  obtain ⟨rfl, hx, hy⟩ := h2
  exact minima_row h a ha x y hx hy
end Go.Proofs.YtdcdlmigagjbiaaDoor
