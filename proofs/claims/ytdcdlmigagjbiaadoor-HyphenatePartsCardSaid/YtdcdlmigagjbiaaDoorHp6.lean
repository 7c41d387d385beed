/- The law Parts. -/
import Derived.Test.YtdcdlmigagjbiaaDoorHs8
import Derived.Test.YtdcdlmigagjbiaaDoorHp5
import Derived.Deep.DeepCutAuto
import Derived.Deep.RegionHeld3
import Derived.Deep.QuietTactic
import Derived.BigQuiet
import Derived.IntWalk
namespace Go.Proofs.YtdcdlmigagjbiaaDoor
open Go.RowKit Go.Maps
theorem parts_empty {w : World} {hb : Nat} : Calls Tryd.prog 16 #[.pointer (some ⟨hb, 0, none⟩), .string ⟨#[]⟩] w (NilPost w) := by
  go_enter Tryd.func16, Tryd.ntmps16
  go_wp2_with fail
  refine bodyPost_ret (v := .slice none 0 0) (by simp [results, Tryd.f16, go_sem]) rfl ⟨rfl, Below.refl _ _⟩
/-- what the first parts are together -/
def preP (t : List UInt8) (ps : List Int) (k : Nat) : List UInt8 := if k ≤ ps.length then t.take (oAt t ps k) else t
theorem preP_len (t : List UInt8) (ps : List Int) (k : Nat) : (preP t ps k).length ≤ t.length := by
  unfold preP; split
  · rw [List.length_take]; omega
  · exact Nat.le_refl _
theorem preP_zero (t : List UInt8) (ps : List Int) : preP t ps 0 = [] := by unfold preP oAt; simp
theorem preP_step {t : List UInt8} {ps : List Int} (h : InPts t ps) {k : Nat} (hk : k < ps.length) : preP t ps k ++ (partsP t ps).getD k [] = preP t ps (k + 1) := by
  unfold preP
  rw [if_pos (by omega), if_pos (by omega), parts_get t ps hk]
  exact take_seg (h.oAt_mono hk)
theorem preP_last (t : List UInt8) (ps : List Int) : preP t ps ps.length ++ (partsP t ps).getD ps.length [] = t := by
  unfold preP
  rw [if_pos (Nat.le_refl _), parts_last, List.take_append_drop]
theorem preP_end (t : List UInt8) (ps : List Int) : preP t ps (ps.length + 1) = t := by unfold preP; rw [if_neg (by omega)]
theorem preP_count {t : List UInt8} {ps : List Int} (h : InPts t ps) {k : Nat} (hk : k < ps.length) : countP (preP t ps (k + 1)) = ((ps.getD k 0).toNat, 0) := by
  unfold preP
  rw [if_pos (by omega)]
  exact h.count hk
set_option maxRecDepth 100000 in
set_option maxHeartbeats 8000000 in
theorem pts6_law (D : DictV) (t : List UInt8) (w : World) (H : D.At w) : Calls Tryd.prog 11 #[D.val, .string ⟨t.toArray⟩] w (KnPost w) := by
  obtain ⟨pv, ev, pats, exs, left, right⟩ := D
  obtain ⟨hp0, he0, hlb, hrb⟩ := id H
  have hp : Strs w pv pats := hp0
  have he : Strs w ev exs := he0
  have hlb : -9223372036854775808 ≤ left ∧ left ≤ 9223372036854775807 := hlb
  have hrb : -9223372036854775808 ≤ right ∧ right ≤ 9223372036854775807 := hrb
  have HPS := Lib.hid hp
  have HES := Lib.hid he
  have HH := Lib.hid H
  clear hp he hp0 he0 H
  obtain ⟨pao, pcap, hpv, _⟩ := id HPS.out
  obtain ⟨eao, ecap, hev, _⟩ := id HES.out
  subst hpv hev
  show Calls Tryd.prog 11 #[.agg #[.slice pao pats.length pcap, .slice eao exs.length ecap, .int .i64 left, .int .i64 right], .string ⟨t.toArray⟩] w (KnPost w)
  have HBK := Lib.hid (Blk.new w 44 #[.slice pao pats.length pcap, .slice eao exs.length ecap, .int .i64 left, .int .i64 right])
  have HBW := Lib.hid ((Below.refl w.heap.size w).alloc (Nat.le_refl _) (.cells #[.slice pao pats.length pcap, .slice eao exs.length ecap, .int .i64 left, .int .i64 right] 44))
  obtain ⟨W, hW⟩ : ∃ W, w.alloc (.cells #[.slice pao pats.length pcap, .slice eao exs.length ecap, .int .i64 left, .int .i64 right] 44) = W := ⟨_, rfl⟩
  rw [hW] at HBK HBW
  have hws := HBW.out.size
  have HD := Lib.hid (HH.out.below HBW.out)
  have HSM := Lib.hid (fun (w : World) h => small_any ⟨.slice pao pats.length pcap, .slice eao exs.length ecap, pats, exs, left, right⟩ w h)
  cases hsm : smallP pats exs with
  | false =>
    have HSF := Lib.hid (show smallP (DictV.mk (.slice pao pats.length pcap) (.slice eao exs.length ecap) pats exs left right).pats (DictV.mk (.slice pao pats.length pcap) (.slice eao exs.length ecap) pats exs left right).exs = false from hsm)
    clear hsm
    go_enter Tryd.func11, Tryd.ntmps11
    go_wp2_with (first
      | (go_at_call 12; have HB0 := HB2; refine (known_any _).mono ?_; unfold KnPost; rintro e w9 ⟨rfl, hb9⟩; have HB9 := Lib.hid (HB2.out.trans (hb9.mono HB2.out.size)); clear hb9)
      | (go_at_call 12; refine (known_any _).mono ?_; unfold KnPost; rintro e w1 ⟨rfl, hb1⟩; have HB1 := Lib.hid hb1; obtain ⟨c0, c1, c2, c3⟩ := (HBK.out.below hb1 HBK.out.lt).four; clear hb1)
      | (go_at_call 24; refine (HSM.out _ (HD.out.below HB1.out)).mono ?_; unfold BoolPost; rw [HSF.out]; rintro e w2 ⟨rfl, hb2⟩; have HB2 := Lib.hid (HB1.out.trans (hb2.mono HB1.out.size)); obtain ⟨c0, c1, c2, c3⟩ := (HBK.out.below HB2.out HBK.out.lt).four; clear hb2))
    refine bodyPost_ret (v := .bool true) (by simp [results, Tryd.f11, go_sem]) rfl ⟨rfl, HBW.out.trans (HB9.out.mono hws)⟩
  | true =>
    obtain ⟨b1, b2, b3, b4⟩ := smallP_iff.1 hsm
    have HSF := Lib.hid (show smallP (DictV.mk (.slice pao pats.length pcap) (.slice eao exs.length ecap) pats exs left right).pats (DictV.mk (.slice pao pats.length pcap) (.slice eao exs.length ecap) pats exs left right).exs = true from hsm)
    have HC := Lib.hid (fun (w : World) h => check_any ⟨.slice pao pats.length pcap, .slice eao exs.length ecap, pats, exs, left, right⟩ w h (fun s hs => by have := b3 s hs; omega) (fun s hs => by have := b4 s hs; omega))
    have HPL := Lib.hid b3
    have HEL := Lib.hid b4
    clear hsm b3 b4
    by_cases h0 : newE pats exs left right = 0
    · have HNE := Lib.hid (show newE (DictV.mk (.slice pao pats.length pcap) (.slice eao exs.length ecap) pats exs left right).pats (DictV.mk (.slice pao pats.length pcap) (.slice eao exs.length ecap) pats exs left right).exs (DictV.mk (.slice pao pats.length pcap) (.slice eao exs.length ecap) pats exs left right).left (DictV.mk (.slice pao pats.length pcap) (.slice eao exs.length ecap) pats exs left right).right = 0 from h0)
      have HN0 := Lib.hid h0
      clear h0
      by_cases h200 : 200 < t.length
      · have d200 : decide (200 < t.length) = true := by simp [h200]
        go_enter Tryd.func11, Tryd.ntmps11
        go_wp2_with (first
          | (go_at_call 12; have HB0 := HB3; refine (known_any _).mono ?_; unfold KnPost; rintro e w9 ⟨rfl, hb9⟩; have HB9 := Lib.hid (HB3.out.trans (hb9.mono HB3.out.size)); clear hb9)
          | (go_at_call 12; refine (known_any _).mono ?_; unfold KnPost; rintro e w1 ⟨rfl, hb1⟩; have HB1 := Lib.hid hb1; obtain ⟨c0, c1, c2, c3⟩ := (HBK.out.below hb1 HBK.out.lt).four; clear hb1)
          | (go_at_call 24; refine (HSM.out _ (HD.out.below HB1.out)).mono ?_; unfold BoolPost; rw [HSF.out]; rintro e w2 ⟨rfl, hb2⟩; have HB2 := Lib.hid (HB1.out.trans (hb2.mono HB1.out.size)); obtain ⟨c0, c1, c2, c3⟩ := (HBK.out.below HB2.out HBK.out.lt).four; clear hb2)
          | (go_at_call 26; refine (HC.out _ (HD.out.below HB2.out)).mono ?_; unfold NumPost; rw [HNE.out]; rintro e w3 ⟨rfl, hb3⟩; have HB3 := Lib.hid (HB2.out.trans (hb3.mono HB2.out.size)); obtain ⟨c0, c1, c2, c3⟩ := (HBK.out.below HB3.out HBK.out.lt).four; clear hb3))
        refine bodyPost_ret (v := .bool true) (by simp [results, Tryd.f11, go_sem]) rfl ⟨rfl, HBW.out.trans (HB9.out.mono hws)⟩
      · have d200 : decide (200 < t.length) = false := by simp [h200]
        have ht200 : t.length ≤ 200 := by omega
        obtain ⟨hl1, hl64, hr1, hr64⟩ := rangeB_no (newE_zero HN0.out).2.2.2.2.2
        have HMD := Lib.hid (fun (w : World) h => made_yes ⟨.slice pao pats.length pcap, .slice eao exs.length ecap, pats, exs, left, right⟩ w h (fun s hs => by have := HPL.out s hs; omega) (fun s hs => by have := HEL.out s hs; omega) HN0.out)
        have HGD := Lib.hid (good_new HN0.out (fun s hs => by have := HEL.out s hs; omega))
        have HPA := Lib.hid (fun (w : World) (B hb : Nat) (H : Hyph w B hb (newS pats exs left right)) => hpoints_any H HGD.out (t := t) (by omega))
        have hpl := points_len (pats := pats) (exs := exs) (left := left) (right := right) (fun s hs => HEL.out s hs) (foldP t)
        by_cases ht0 : t = []
        · subst ht0
          have HPE := Lib.hid (points_empty (newS pats exs left right))
          rw [HPE.out] at HPA
          go_enter Tryd.func11, Tryd.ntmps11
          go_wp2_with (first
            | (go_at_call 12; refine (known_any _).mono ?_; unfold KnPost; rintro e w1 ⟨rfl, hb1⟩; have HB1 := Lib.hid hb1; obtain ⟨c0, c1, c2, c3⟩ := (HBK.out.below hb1 HBK.out.lt).four; clear hb1)
            | (go_at_call 24; refine (HSM.out _ (HD.out.below HB1.out)).mono ?_; unfold BoolPost; rw [HSF.out]; rintro e w2 ⟨rfl, hb2⟩; have HB2 := Lib.hid (HB1.out.trans (hb2.mono HB1.out.size)); obtain ⟨c0, c1, c2, c3⟩ := (HBK.out.below HB2.out HBK.out.lt).four; clear hb2)
            | (go_at_call 26; refine (HC.out _ (HD.out.below HB2.out)).mono ?_; unfold NumPost; rw [HNE.out]; rintro e w3 ⟨rfl, hb3⟩; have HB3 := Lib.hid (HB2.out.trans (hb3.mono HB2.out.size)); obtain ⟨c0, c1, c2, c3⟩ := (HBK.out.below HB3.out HBK.out.lt).four; clear hb3)
            | (go_at_call 27; refine (HMD.out _ (HD.out.below HB3.out)).mono ?_; unfold MadeY; rintro e w4 ⟨hb, B, rfl, hb4, hh⟩; have HB4 := Lib.hid (HB3.out.trans (hb4.mono HB3.out.size)); have HY4 := Lib.hid hh; clear hb4 hh)
            | (go_at_call 15; refine (HPA.out _ _ _ HY4.out).mono ?_; unfold LevPost; rintro e w5 ⟨v5, rfl, hb5, hr5⟩; obtain ⟨vao, vcap, rfl⟩ := row_slice (k := 0) hr5; have HB5 := Lib.hid (HB4.out.trans (hb5.mono HB4.out.size)); clear hb5 hr5)
            | (go_at_call 16; refine (parts_empty).mono ?_; unfold NilPost; rintro e w6 ⟨rfl, hb6⟩; have HB6 := Lib.hid (HB5.out.trans (hb6.mono HB5.out.size)); clear hb6))
          refine bodyPost_ret (v := .bool true) (by simp [results, Tryd.f11, go_sem]) rfl ⟨rfl, HBW.out.trans (HB6.out.mono hws)⟩
        · have HIN := Lib.hid (inPts (pats := pats) (exs := exs) hl1 hr1 t)
          obtain ⟨ps, hps⟩ : ∃ ps, pointsP (newS pats exs left right) (foldP t) = ps := ⟨_, rfl⟩
          have HPR := Lib.hid (fun (w : World) (B hb : Nat) (H : Hyph w B hb (newS pats exs left right)) (hp : ps.length ≤ 1000000) (HI : InPts t ps) => parts_yes H HGD.out (t := t) (by omega) ht0 hps hp HI)
          rw [hps] at HPA HIN hpl
          have e1 : (t == []) = false := by rw [beq_eq_false_iff_ne]; exact ht0
          have e2 : ((⟨t.toArray⟩ : ByteArray).toList == (⟨#[]⟩ : ByteArray).toList) = false := seq_f (fun e => ht0 (by have := congrArg (fun b : ByteArray => b.data.toList) e; exact this))
          obtain ⟨PL, hPL⟩ : ∃ PL, partsP t ps = PL := ⟨_, rfl⟩
          have hPLn : PL.length = ps.length + 1 := by rw [← hPL]; exact parts_len _ _
          have HPLE := Lib.hid hPL
          rw [hPL] at HPR
          have HPN := Lib.hid hPLn
          clear hps ht0 hPL hPLn
          go_enter Tryd.func11, Tryd.ntmps11
          go_wp2_with (first
            | (go_at_call 12; refine (known_any _).mono ?_; unfold KnPost; rintro e w1 ⟨rfl, hb1⟩; have HB1 := Lib.hid hb1; obtain ⟨c0, c1, c2, c3⟩ := (HBK.out.below hb1 HBK.out.lt).four; clear hb1)
            | (go_at_call 24; refine (HSM.out _ (HD.out.below HB1.out)).mono ?_; unfold BoolPost; rw [HSF.out]; rintro e w2 ⟨rfl, hb2⟩; have HB2 := Lib.hid (HB1.out.trans (hb2.mono HB1.out.size)); obtain ⟨c0, c1, c2, c3⟩ := (HBK.out.below HB2.out HBK.out.lt).four; clear hb2)
            | (go_at_call 26; refine (HC.out _ (HD.out.below HB2.out)).mono ?_; unfold NumPost; rw [HNE.out]; rintro e w3 ⟨rfl, hb3⟩; have HB3 := Lib.hid (HB2.out.trans (hb3.mono HB2.out.size)); obtain ⟨c0, c1, c2, c3⟩ := (HBK.out.below HB3.out HBK.out.lt).four; clear hb3)
            | (go_at_call 27; refine (HMD.out _ (HD.out.below HB3.out)).mono ?_; unfold MadeY; rintro e w4 ⟨hb, B, rfl, hb4, hh⟩; have HB4 := Lib.hid (HB3.out.trans (hb4.mono HB3.out.size)); have HY4 := Lib.hid hh; clear hb4 hh)
            | (go_at_call 15; refine (HPA.out _ _ _ HY4.out).mono ?_; unfold LevPost; rintro e w5 ⟨v5, rfl, hb5, hr5⟩; obtain ⟨vao, vcap, rfl⟩ := row_slice hr5; have HY5 := Lib.hid (HY4.out.below hb5); have HB5 := Lib.hid (HB4.out.trans (hb5.mono HB4.out.size)); have HR5 := Lib.hid (Ints.of_owns hr5); clear hb5 hr5)
            | (go_at_call 16; refine (HPR.out _ _ _ HY5.out hpl HIN.out).mono ?_; unfold PartsPost; rintro e w6 ⟨v6, rfl, hb6, hs6⟩; obtain ⟨pao6, pcap6, rfl, _⟩ := id hs6; have HB6 := Lib.hid (HB5.out.trans (hb6.mono HB5.out.size)); have HR6 := Lib.hid (HR5.out.below hb6); have HS6 := Lib.hid hs6; clear hb6 hs6; rw [HPN.out]))
          have hz1 : decide ((ps.length : Int) + 1 = (ps.length : Int) + 1) = true := by simp
          go_loopw [9, 10] (fun s i wr => ∃ k : Nat, k ≤ ps.length + 1 ∧ i = .int .i64 (k : Int) ∧ s = .string ⟨(preP t ps k).toArray⟩ ∧ wr = w6) (fun _ i _ => ps.length + 1 - (intOf i).toNat)
          case atStart => exact ⟨0, Nat.zero_le _, rfl, by rw [preP_zero], rfl⟩
          case round =>
            obtain ⟨k, hk, rfl, rfl, rfl⟩ := hrel
            by_cases hlk : k < ps.length + 1
            · obtain ⟨pb, poff, rfl, hcell⟩ := strs_at HS6.out (Below.refl _ _) (k := k) (by rw [HPN.out]; exact hlk)
              have hl1' := preP_len t ps k
              by_cases hk2 : k < ps.length
              · obtain ⟨vb, vo, rfl, hvlt, hvc, hvl, hvm⟩ := ints_pos HR6.out (by omega)
                have hcell2 := hvc k hk2
                have hst := preP_step HIN.out hk2
                have hct := preP_count HIN.out hk2
                have hl2' := preP_len t ps (k + 1)
                have hge := (HIN.out.ge k hk2).1
                rw [HPLE.out] at hst
                obtain ⟨x, hx⟩ : ∃ x, ps.getD k 0 = x := ⟨_, rfl⟩
                rw [hx] at hcell2 hct hge
                obtain ⟨a, ha⟩ : ∃ a, preP t ps k = a := ⟨_, rfl⟩
                obtain ⟨b, hb'⟩ : ∃ b, PL.getD k [] = b := ⟨_, rfl⟩
                obtain ⟨c, hc'⟩ : ∃ c, preP t ps (k + 1) = c := ⟨_, rfl⟩
                rw [ha] at hl1' hst ⊢
                rw [hb'] at hcell hst
                rw [hc'] at hl2' hct hst
                have hbl : b.length ≤ c.length := by rw [← hst, List.length_append]; omega
                have hadd := fun w => run_string_add_lists (P := Tryd.prog) w a b (by omega) (by omega)
                rw [hst] at hadd
                have HCT := Lib.hid (show countP (⟨c.toArray⟩ : ByteArray).data.toList = (x.toNat, 0) from hct)
                have HCE := Lib.hid hc'
                have hxx : ((x.toNat : Nat) : Int) = x := by omega
                have hne : ((x.toNat : Int) != x) = false := by rw [hxx]; simp
                have d8 : decide (k < ps.length) = true := by simp [hk2]
                clear hvc hx ha hb' hc' hst hct hxx
                go_wp2_with (go_at_call 34; (with_reducible refine (count_at ⟨c.toArray⟩ (x.toNat, 0) (by rw [ba_size]; omega) HCT _).mono ?_); rintro e w7 ⟨rfl, rfl⟩)
                exact ⟨⟨k + 1, hlk, by go_num, by rw [HCE.out], trivial⟩, by simp [intOf]; omega⟩
              · have hke : k = ps.length := by omega
                have hst := preP_last t ps
                rw [HPLE.out, ← hke] at hst
                obtain ⟨a, ha⟩ : ∃ a, preP t ps k = a := ⟨_, rfl⟩
                obtain ⟨b, hb'⟩ : ∃ b, PL.getD k [] = b := ⟨_, rfl⟩
                rw [ha] at hl1' hst ⊢
                rw [hb'] at hcell hst
                have hbl : b.length ≤ t.length := by rw [← hst, List.length_append]; omega
                have hadd := fun w => run_string_add_lists (P := Tryd.prog) w a b (by omega) (by omega)
                rw [hst] at hadd
                have HPE := Lib.hid (show preP t ps (k + 1) = t by rw [hke]; exact preP_end _ _)
                have d8 : decide (k < ps.length) = false := by simp [hk2]
                clear ha hb' hst hke
                go_wp2_with fail
                exact ⟨⟨k + 1, hlk, by go_num, by rw [HPE.out], trivial⟩, by simp [intOf]; omega⟩
            · have hke : k = ps.length + 1 := by omega
              subst hke
              rw [preP_end]
              have et : ((⟨t.toArray⟩ : ByteArray).toList == (⟨t.toArray⟩ : ByteArray).toList) = true := seq_t rfl
              have d9 : decide (ps.length + 1 < ps.length + 1) = false := by simp
              go_wp2_with fail
              refine bodyPost_ret (v := .bool true) (by simp [results, Tryd.f11, go_sem]) rfl ⟨rfl, HBW.out.trans (HB6.out.mono hws)⟩
    · obtain ⟨n, hn⟩ : ∃ n, newE pats exs left right = n := ⟨_, rfl⟩
      have HNE := Lib.hid (show newE (DictV.mk (.slice pao pats.length pcap) (.slice eao exs.length ecap) pats exs left right).pats (DictV.mk (.slice pao pats.length pcap) (.slice eao exs.length ecap) pats exs left right).exs (DictV.mk (.slice pao pats.length pcap) (.slice eao exs.length ecap) pats exs left right).left (DictV.mk (.slice pao pats.length pcap) (.slice eao exs.length ecap) pats exs left right).right = n from hn)
      rw [hn] at h0
      clear hn
      have en0 : (((n : Nat) : Int) == 0) = false := by rw [beq_eq_false_iff_ne]; omega
      have en1 : (n = 0) = False := by simp [h0]
      go_enter Tryd.func11, Tryd.ntmps11
      go_wp2_with (first
        | (go_at_call 12; have HB0 := HB3; refine (known_any _).mono ?_; unfold KnPost; rintro e w9 ⟨rfl, hb9⟩; have HB9 := Lib.hid (HB3.out.trans (hb9.mono HB3.out.size)); clear hb9)
        | (go_at_call 12; refine (known_any _).mono ?_; unfold KnPost; rintro e w1 ⟨rfl, hb1⟩; have HB1 := Lib.hid hb1; obtain ⟨c0, c1, c2, c3⟩ := (HBK.out.below hb1 HBK.out.lt).four; clear hb1)
        | (go_at_call 24; refine (HSM.out _ (HD.out.below HB1.out)).mono ?_; unfold BoolPost; rw [HSF.out]; rintro e w2 ⟨rfl, hb2⟩; have HB2 := Lib.hid (HB1.out.trans (hb2.mono HB1.out.size)); obtain ⟨c0, c1, c2, c3⟩ := (HBK.out.below HB2.out HBK.out.lt).four; clear hb2)
        | (go_at_call 26; refine (HC.out _ (HD.out.below HB2.out)).mono ?_; unfold NumPost; rw [HNE.out]; rintro e w3 ⟨rfl, hb3⟩; have HB3 := Lib.hid (HB2.out.trans (hb3.mono HB2.out.size)); obtain ⟨c0, c1, c2, c3⟩ := (HBK.out.below HB3.out HBK.out.lt).four; clear hb3))
      refine bodyPost_ret (v := .bool true) (by simp [results, Tryd.f11, go_sem]) rfl ⟨rfl, HBW.out.trans (HB9.out.mono hws)⟩
theorem pts6_row {D : DictV} {v : Value} {w : World} (h : v = D.val ∧ D.At w) (a : ByteArray) (_ : a.size ≤ maxLen) : Calls Tryd.prog 11 #[v, .string a] w (KnPost w) := by
  obtain ⟨rfl, h⟩ := h
  have := pts6_law D a.data.toList w h
  rw [str_back] at this
  exact this
end Go.Proofs.YtdcdlmigagjbiaaDoor
