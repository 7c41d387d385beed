/- The law Levels. -/
import Derived.Test.YtdcdlmigagjbiaaDoorHs7
import Derived.Deep.DeepCutAuto
import Derived.Deep.RegionHeld3
import Derived.Deep.QuietTactic
import Derived.BigQuiet
import Derived.IntWalk
namespace Go.Proofs.YtdcdlmigagjbiaaDoor
open Go.RowKit Go.Maps
theorem below_undrew {B : Nat} {a w : World} (h : Below B a.drew w) : Below B a w := ⟨h.os, h.tape, h.output, h.size, h.block⟩
theorem listed_step {exs : List (List UInt8)} {k : Nat} (hk : k < exs.length) {wd : List UInt8} {ps : List Int} {ok : Bool} (h : exP (foldP (exs.getD k [])) = (wd, ps, ok)) (f : List UInt8) :
    (exLook ((exs.take (k + 1)).map exOf) f).isSome = ((exLook ((exs.take k).map exOf) f).isSome || decide (wd = f)) := by
  rw [take_snoc exs [] k hk, List.map_append, List.map_cons, List.map_nil, show exOf (exs.getD k []) = (wd, ps) from by unfold exOf; rw [h], exLook_snoc]
  by_cases e : wd = f
  · rw [if_pos e, decide_eq_true e, Bool.or_true]; rfl
  · rw [if_neg e, decide_eq_false e, Bool.or_false]
set_option maxRecDepth 100000 in
set_option maxHeartbeats 8000000 in
theorem levels_law (D : DictV) (t : List UInt8) (w : World) (H : D.At w) : Calls Tryd.prog 8 #[D.val, .string ⟨t.toArray⟩] w (KnPost w) := by
  obtain ⟨pv, ev, pats, exs, left, right⟩ := D
  obtain ⟨hp0, he0, hlb, hrb⟩ := id H
  have hp : Strs w pv pats := hp0
  have he : Strs w ev exs := he0
  have hlb : -9223372036854775808 ≤ left ∧ left ≤ 9223372036854775807 := hlb
  have hrb : -9223372036854775808 ≤ right ∧ right ≤ 9223372036854775807 := hrb
  have HPS := Lib.hid hp
  have HES := Lib.hid he
  have HH := Lib.hid H
  clear hp he hp0 he0 H
  obtain ⟨pao, pcap, hpv, _⟩ := id HPS.out
  obtain ⟨eao, ecap, hev, _⟩ := id HES.out
  subst hpv hev
  show Calls Tryd.prog 8 #[.agg #[.slice pao pats.length pcap, .slice eao exs.length ecap, .int .i64 left, .int .i64 right], .string ⟨t.toArray⟩] w (KnPost w)
  have HBK := Lib.hid (Blk.new w 44 #[.slice pao pats.length pcap, .slice eao exs.length ecap, .int .i64 left, .int .i64 right])
  have HBW := Lib.hid ((Below.refl w.heap.size w).alloc (Nat.le_refl _) (.cells #[.slice pao pats.length pcap, .slice eao exs.length ecap, .int .i64 left, .int .i64 right] 44))
  obtain ⟨W, hW⟩ : ∃ W, w.alloc (.cells #[.slice pao pats.length pcap, .slice eao exs.length ecap, .int .i64 left, .int .i64 right] 44) = W := ⟨_, rfl⟩
  rw [hW] at HBK HBW
  have hws := HBW.out.size
  have HD := Lib.hid (HH.out.below HBW.out)
  have HSM := Lib.hid (fun (w : World) h => small_any ⟨.slice pao pats.length pcap, .slice eao exs.length ecap, pats, exs, left, right⟩ w h)
  cases hsm : smallP pats exs with
  | false =>
    have HSF := Lib.hid (show smallP (DictV.mk (.slice pao pats.length pcap) (.slice eao exs.length ecap) pats exs left right).pats (DictV.mk (.slice pao pats.length pcap) (.slice eao exs.length ecap) pats exs left right).exs = false from hsm)
    clear hsm
    go_enter Tryd.func8, Tryd.ntmps8
    go_wp2_with (first
      | (go_at_call 12; have HB0 := HB2; refine (known_any _).mono ?_; unfold KnPost; rintro e w9 ⟨rfl, hb9⟩; have HB9 := Lib.hid (HB2.out.trans (hb9.mono HB2.out.size)); clear hb9)
      | (go_at_call 12; refine (known_any _).mono ?_; unfold KnPost; rintro e w1 ⟨rfl, hb1⟩; have HB1 := Lib.hid hb1; obtain ⟨c0, c1, c2, c3⟩ := (HBK.out.below hb1 HBK.out.lt).four; clear hb1)
      | (go_at_call 24; refine (HSM.out _ (HD.out.below HB1.out)).mono ?_; unfold BoolPost; rw [HSF.out]; rintro e w2 ⟨rfl, hb2⟩; have HB2 := Lib.hid (HB1.out.trans (hb2.mono HB1.out.size)); obtain ⟨c0, c1, c2, c3⟩ := (HBK.out.below HB2.out HBK.out.lt).four; clear hb2))
    refine bodyPost_ret (v := .bool true) (by simp [results, Tryd.f8, go_sem]) rfl ⟨rfl, HBW.out.trans (HB9.out.mono hws)⟩
  | true =>
    obtain ⟨b1, b2, b3, b4⟩ := smallP_iff.1 hsm
    have HSF := Lib.hid (show smallP (DictV.mk (.slice pao pats.length pcap) (.slice eao exs.length ecap) pats exs left right).pats (DictV.mk (.slice pao pats.length pcap) (.slice eao exs.length ecap) pats exs left right).exs = true from hsm)
    have HC := Lib.hid (fun (w : World) h => check_any ⟨.slice pao pats.length pcap, .slice eao exs.length ecap, pats, exs, left, right⟩ w h (fun s hs => by have := b3 s hs; omega) (fun s hs => by have := b4 s hs; omega))
    have HPL := Lib.hid b3
    have HEL := Lib.hid b4
    clear hsm b3 b4
    by_cases h0 : newE pats exs left right = 0
    · have HNE := Lib.hid (show newE (DictV.mk (.slice pao pats.length pcap) (.slice eao exs.length ecap) pats exs left right).pats (DictV.mk (.slice pao pats.length pcap) (.slice eao exs.length ecap) pats exs left right).exs (DictV.mk (.slice pao pats.length pcap) (.slice eao exs.length ecap) pats exs left right).left (DictV.mk (.slice pao pats.length pcap) (.slice eao exs.length ecap) pats exs left right).right = 0 from h0)
      have HN0 := Lib.hid h0
      clear h0
      by_cases h200 : 200 < t.length
      · have d200 : decide (200 < t.length) = true := by simp [h200]
        go_enter Tryd.func8, Tryd.ntmps8
        go_wp2_with (first
          | (go_at_call 12; have HB0 := HB3; refine (known_any _).mono ?_; unfold KnPost; rintro e w9 ⟨rfl, hb9⟩; have HB9 := Lib.hid (HB3.out.trans (hb9.mono HB3.out.size)); clear hb9)
          | (go_at_call 12; refine (known_any _).mono ?_; unfold KnPost; rintro e w1 ⟨rfl, hb1⟩; have HB1 := Lib.hid hb1; obtain ⟨c0, c1, c2, c3⟩ := (HBK.out.below hb1 HBK.out.lt).four; clear hb1)
          | (go_at_call 24; refine (HSM.out _ (HD.out.below HB1.out)).mono ?_; unfold BoolPost; rw [HSF.out]; rintro e w2 ⟨rfl, hb2⟩; have HB2 := Lib.hid (HB1.out.trans (hb2.mono HB1.out.size)); obtain ⟨c0, c1, c2, c3⟩ := (HBK.out.below HB2.out HBK.out.lt).four; clear hb2)
          | (go_at_call 26; refine (HC.out _ (HD.out.below HB2.out)).mono ?_; unfold NumPost; rw [HNE.out]; rintro e w3 ⟨rfl, hb3⟩; have HB3 := Lib.hid (HB2.out.trans (hb3.mono HB2.out.size)); obtain ⟨c0, c1, c2, c3⟩ := (HBK.out.below HB3.out HBK.out.lt).four; clear hb3))
        refine bodyPost_ret (v := .bool true) (by simp [results, Tryd.f8, go_sem]) rfl ⟨rfl, HBW.out.trans (HB9.out.mono hws)⟩
      · have d200 : decide (200 < t.length) = false := by simp [h200]
        have ht200 : t.length ≤ 200 := by omega
        obtain ⟨hl1, hl64, hr1, hr64⟩ := rangeB_no (newE_zero HN0.out).2.2.2.2.2
        have HMD := Lib.hid (fun (w : World) h => made_yes ⟨.slice pao pats.length pcap, .slice eao exs.length ecap, pats, exs, left, right⟩ w h (fun s hs => by have := HPL.out s hs; omega) (fun s hs => by have := HEL.out s hs; omega) HN0.out)
        have HGD := Lib.hid (good_new HN0.out (fun s hs => by have := HEL.out s hs; omega))
        have HDL := Lib.hid (fun (w : World) (h : (DictV.mk (.slice pao pats.length pcap) (.slice eao exs.length ecap) pats exs left right).At w) (L : List Int) (lv : Value) (hL : Ints w lv L) (h1 : 0 < L.length) (h2 : L.length ≤ 64) => dlevels_any ⟨.slice pao pats.length pcap, .slice eao exs.length ecap, pats, exs, left, right⟩ w h L lv hL h1 h2 (fun s hs => by have := HPL.out s hs; omega) (fun s hs => fe_zero (newE_zero HN0.out).2.2.1 s hs) (newE_zero HN0.out).1)
        have HLA := Lib.hid (fun (w : World) (B hb : Nat) (H : Hyph w B hb (newS pats exs left right)) => levels_any H HGD.out (t := t) (by omega))
        have HIX := Lib.hid (fun (w : World) (B hb : Nat) (H : Hyph w B hb (newS pats exs left right)) => isex_any H (t := t) (by omega))
        have hfl := foldP_len t
        obtain ⟨f, hf⟩ : ∃ f, foldP t = f := ⟨_, rfl⟩
        have HFF := Lib.hid hf
        have HFD := Lib.hid (fun w => fold_at t (by omega) w)
        rw [hf] at HLA HIX HFD hfl
        clear hf
        cases hw : wordP f with
        | none =>
          have HLN := Lib.hid (levP_none (newS pats exs left right) hw)
          have HXN := Lib.hid (show (exLook (newS pats exs left right).exs f).isSome = false by rw [show (newS pats exs left right).exs = exs.map exOf from rfl, look_no HN0.out hw]; rfl)
          have HF := Lib.hid (fun w => folded_no (t := t) (by rw [HFF.out]; exact hw) (by omega) w)
          clear hw
          go_enter Tryd.func8, Tryd.ntmps8
          go_wp2_with (first
            | (go_at_call 12; refine (known_any _).mono ?_; unfold KnPost; rintro e w1 ⟨rfl, hb1⟩; have HB1 := Lib.hid hb1; obtain ⟨c0, c1, c2, c3⟩ := (HBK.out.below hb1 HBK.out.lt).four; clear hb1)
            | (go_at_call 24; refine (HSM.out _ (HD.out.below HB1.out)).mono ?_; unfold BoolPost; rw [HSF.out]; rintro e w2 ⟨rfl, hb2⟩; have HB2 := Lib.hid (HB1.out.trans (hb2.mono HB1.out.size)); obtain ⟨c0, c1, c2, c3⟩ := (HBK.out.below HB2.out HBK.out.lt).four; clear hb2)
            | (go_at_call 26; refine (HC.out _ (HD.out.below HB2.out)).mono ?_; unfold NumPost; rw [HNE.out]; rintro e w3 ⟨rfl, hb3⟩; have HB3 := Lib.hid (HB2.out.trans (hb3.mono HB2.out.size)); obtain ⟨c0, c1, c2, c3⟩ := (HBK.out.below HB3.out HBK.out.lt).four; clear hb3)
            | (go_at_call 27; refine (HMD.out _ (HD.out.below HB3.out)).mono ?_; unfold MadeY; rintro e w4 ⟨hb, B, rfl, hb4, hh⟩; have HB4 := Lib.hid (HB3.out.trans (hb4.mono HB3.out.size)); have HY4 := Lib.hid hh; clear hb4 hh)
            | (go_at_call 30; refine (HF.out _).mono ?_; unfold WordNo; rintro e w5 ⟨v5, rfl, hb5⟩; have HY5 := Lib.hid (HY4.out.below hb5); have HB5 := Lib.hid (HB4.out.trans (hb5.mono HB4.out.size)); clear hb5)
            | (go_at_call 14; refine (HLA.out _ _ _ HY5.out).mono ?_; unfold LevPost; rw [HLN.out]; rintro e w6 ⟨v6, rfl, hb6, hr6⟩; obtain ⟨ao6, cap6, rfl⟩ := row_slice (k := 0) hr6; have HY6 := Lib.hid (HY5.out.below hb6); have HB6 := Lib.hid (HB5.out.trans (hb6.mono HB5.out.size)); clear hb6 hr6)
            | (go_at_call 17; refine (HIX.out _ _ _ HY6.out).mono ?_; unfold IsPost; rw [HXN.out]; rintro e w7 ⟨rfl, hb7⟩; have HB7 := Lib.hid (HB6.out.trans (hb7.mono HB6.out.size)); clear hb7))
          refine bodyPost_ret (v := .bool true) (by simp [results, Tryd.f8, go_sem]) rfl ⟨rfl, HBW.out.trans (HB7.out.mono hws)⟩
        | some L =>
          have HLS := Lib.hid (levP_some (newS pats exs left right) hw)
          have HF := Lib.hid (fun w => folded_yes (t := t) (L := L) (by rw [HFF.out]; exact hw) (by omega) w)
          obtain ⟨_, _, hLp, hL64⟩ := wordP_some hw
          obtain ⟨LV, hLV⟩ : ∃ LV, levelsP (pats.map fun s => (parseP s).2) L = LV := ⟨_, rfl⟩
          have hLVl : LV.length ≤ 65 := by rw [← hLV, levelsP_len]; omega
          have HLV := Lib.hid hLV
          have hen : exs.length ≤ 10 := b2
          clear hw hLV
          go_enter Tryd.func8, Tryd.ntmps8
          go_wp2_with (first
            | (go_at_call 12; refine (known_any _).mono ?_; unfold KnPost; rintro e w1 ⟨rfl, hb1⟩; have HB1 := Lib.hid hb1; obtain ⟨c0, c1, c2, c3⟩ := (HBK.out.below hb1 HBK.out.lt).four; clear hb1)
            | (go_at_call 24; refine (HSM.out _ (HD.out.below HB1.out)).mono ?_; unfold BoolPost; rw [HSF.out]; rintro e w2 ⟨rfl, hb2⟩; have HB2 := Lib.hid (HB1.out.trans (hb2.mono HB1.out.size)); obtain ⟨c0, c1, c2, c3⟩ := (HBK.out.below HB2.out HBK.out.lt).four; clear hb2)
            | (go_at_call 26; refine (HC.out _ (HD.out.below HB2.out)).mono ?_; unfold NumPost; rw [HNE.out]; rintro e w3 ⟨rfl, hb3⟩; have HB3 := Lib.hid (HB2.out.trans (hb3.mono HB2.out.size)); obtain ⟨c0, c1, c2, c3⟩ := (HBK.out.below HB3.out HBK.out.lt).four; clear hb3)
            | (go_at_call 27; refine (HMD.out _ (HD.out.below HB3.out)).mono ?_; unfold MadeY; rintro e w4 ⟨hb, B, rfl, hb4, hh⟩; have HB4 := Lib.hid (HB3.out.trans (hb4.mono HB3.out.size)); have HY4 := Lib.hid hh; clear hb4 hh)
            | (go_at_call 30; refine (HF.out _).mono ?_; unfold WordYes; rintro e w5 ⟨lao, lcap, rfl, hb5, hr5⟩; have HY5 := Lib.hid (HY4.out.below hb5); have HB5 := Lib.hid (HB4.out.trans (hb5.mono HB4.out.size)); have HR5 := Lib.hid (Ints.of_owns hr5.out); obtain ⟨c0, c1, c2, c3⟩ := (HBK.out.below HB5.out HBK.out.lt).four; clear hb5 hr5))
          have hs5 := HB5.out.size
          have HK5 := Lib.hid (HBK.out.below HB5.out HBK.out.lt)
          have hk5 := HK5.out.lt
          go_loopw [9, 10] (fun bv i wr => ∃ k : Nat, k ≤ exs.length ∧ i = .int .i64 (k : Int) ∧ bv = .bool (exLook ((exs.take k).map exOf) f).isSome ∧ Hid (Below w5.heap.size w5 wr)) (fun _ i _ => exs.length - (intOf i).toNat)
          case atStart => exact ⟨0, Nat.zero_le _, rfl, rfl, Lib.hid (Below.refl _ _)⟩
          case round =>
            clear c0 c1 c2 c3
            obtain ⟨k, hk, rfl, rfl, HB⟩ := hrel
            have hrs := HB.out.size
            have HBT := Lib.hid (HBW.out.trans ((HB5.out.trans (HB.out.mono hs5)).mono hws))
            obtain ⟨c0, c1, c2, c3⟩ := (HK5.out.below HB.out hk5).four
            by_cases hlk : k < exs.length
            · obtain ⟨pb, poff, rfl, hcell⟩ := strs_at HES.out HBT.out hlk
              have HM := Lib.hid (getD_in (d := []) hlk)
              have HST := Lib.hid (fun wd ps ok h => listed_step hlk (wd := wd) (ps := ps) (ok := ok) h f)
              obtain ⟨s, hs⟩ : ∃ s, exs.getD k [] = s := ⟨_, rfl⟩
              rw [hs] at hcell HM HST
              have hsl := HEL.out s HM.out
              have HXC := Lib.hid (fun w => exception2_any s (by omega) w)
              unfold ExPost at HXC
              obtain ⟨wd, qs, ok, hx⟩ : ∃ wd ps ok, exP (foldP s) = (wd, ps, ok) := ⟨_, _, _, rfl⟩
              rw [hx] at HXC
              have hst := HST.out wd qs ok hx
              obtain ⟨b0, hb0⟩ : ∃ b, (exLook ((exs.take k).map exOf) f).isSome = b := ⟨_, rfl⟩
              rw [hb0] at hst ⊢
              have HST2 := Lib.hid hst
              clear hs hx hst hb0 HST
              cases b0 with
              | true =>
                go_wp2_with (first
                  | (go_at_call 31; refine (HXC.out _).mono ?_; rintro e w6 ⟨pv2, rfl, hb6, hr6⟩; have hs6 := hb6.size; have HB6 := Lib.hid (HB.out.trans (hb6.mono hrs)); clear hb6 hr6))
                exact ⟨⟨k + 1, hlk, by go_num, by rw [HST2.out]; rfl, HB6⟩, by simp [intOf]; omega⟩
              | false =>
                by_cases hq : wd = f
                · have e1 : (wd == f) = true := by rw [beq_iff_eq]; exact hq
                  have e2 : ((⟨wd.toArray⟩ : ByteArray).toList == (⟨f.toArray⟩ : ByteArray).toList) = true := seq_t (by rw [hq])
                  have HDQ := Lib.hid (decide_eq_true hq)
                  clear hq
                  go_wp2_with (first
                    | (go_at_call 31; refine (HXC.out _).mono ?_; rintro e w6 ⟨pv2, rfl, hb6, hr6⟩; have hs6 := hb6.size; have HB6 := Lib.hid (HB.out.trans (hb6.mono hrs)); clear hb6 hr6)
                    | (go_at_call 29; refine (HFD.out _).mono ?_; rintro e w7 ⟨rfl, hb7⟩; have HB7 := Lib.hid (HB6.out.trans (hb7.mono (by omega))); clear hb7))
                  exact ⟨⟨k + 1, hlk, by go_num, by rw [HST2.out, HDQ.out]; rfl, HB7⟩, by simp [intOf]; omega⟩
                · have e1 : (wd == f) = false := by rw [beq_eq_false_iff_ne]; exact hq
                  have e2 : ((⟨wd.toArray⟩ : ByteArray).toList == (⟨f.toArray⟩ : ByteArray).toList) = false := seq_f (fun e => hq (by have := congrArg (fun b : ByteArray => b.data.toList) e; exact this))
                  have HDQ := Lib.hid (decide_eq_false hq)
                  clear hq
                  go_wp2_with (first
                    | (go_at_call 31; refine (HXC.out _).mono ?_; rintro e w6 ⟨pv2, rfl, hb6, hr6⟩; have hs6 := hb6.size; have HB6 := Lib.hid (HB.out.trans (hb6.mono hrs)); clear hb6 hr6)
                    | (go_at_call 29; refine (HFD.out _).mono ?_; rintro e w7 ⟨rfl, hb7⟩; have HB7 := Lib.hid (HB6.out.trans (hb7.mono (by omega))); clear hb7))
                  exact ⟨⟨k + 1, hlk, by go_num, by rw [HST2.out, HDQ.out]; rfl, HB7⟩, by simp [intOf]; omega⟩
            · have hke : k = exs.length := by omega
              subst hke
              have hall : exs.take exs.length = exs := List.take_length
              rw [hall]
              obtain ⟨bx, hbx⟩ : ∃ b, (exLook (exs.map exOf) f).isSome = b := ⟨_, rfl⟩
              have HBX := Lib.hid (show (exLook (newS pats exs left right).exs f).isSome = bx from hbx)
              rw [hbx]
              clear hall hbx
              have d8 : decide (exs.length < exs.length) = false := by simp
              have HBR := Lib.hid (HB5.out.trans (HB.out.mono hs5))
              have HYR := Lib.hid (HY5.out.below HB.out)
              have HRR := Lib.hid (HR5.out.below HB.out)
              have hrr := HBR.out.size
              go_upto_region 15 with fail
              go_cut [4] (fun v w' => v = .bool true ∧ Below w5.heap.size w5 w')
              case first =>
                have HSE := Lib.hid (show (LV == LV) = true by simp)
                go_region_law (first
                  | (go_simp; go_at_call 14; refine (HLA.out _ _ _ (HYR.out.below (below_drew (Below.refl _ _)))).mono ?_; unfold LevPost; rw [HLS.out]; rintro e w6 ⟨v6, rfl, hb6, hr6⟩; have HB6 := Lib.hid (below_undrew hb6); have HR6 := Lib.hid (show Ints w6 v6 LV from (by have h := Ints.of_owns hr6; rw [← HLV.out]; exact h)); have HW6 := Lib.hid (HBR.out.trans (HB6.out.mono hrr)); obtain ⟨c0, c1, c2, c3⟩ := (HBK.out.below HW6.out HBK.out.lt).four; clear hb6 hr6)
                  | (go_simp; go_at_call 32; refine (HDL.out _ (HD.out.below HW6.out) L _ (HRR.out.below HB6.out) hLp hL64).mono ?_; unfold LevPost; rintro e w7 ⟨v7, rfl, hb7, hr7⟩; have HB7 := Lib.hid hb7; have HR7 := Lib.hid (show Ints w7 v7 LV from (by have h := Ints.of_owns hr7; rw [← HLV.out]; exact h)); have HRX := Lib.hid (HR6.out.below hb7); have HW7 := Lib.hid (HB6.out.trans (hb7.mono HB6.out.size)); clear hb7 hr7)
                  | (go_simp; go_at_call 28; refine (same_any _ _ LV LV _ (by omega) (by omega) HRX.out HR7.out).mono ?_; unfold SamePost; rw [HSE.out]; rintro e w8 ⟨rfl, hb8⟩; have HW8 := Lib.hid (HW7.out.trans (hb8.mono HW7.out.size)); clear hb8)
                  | (go_simp; go_at_call 17; refine (HIX.out _ _ _ (HYR.out.below HW8.out)).mono ?_; unfold IsPost; rw [HBX.out]; rintro e w9 ⟨rfl, hb9⟩; have HW9 := Lib.hid (HW8.out.trans (hb9.mono HW8.out.size)); clear hb9))
                all_goals
                  go_wp2_with fail
                  go_meet
                  case rel => exact ⟨by simp, HB.out.trans (HW9.out.mono hrs)⟩
              case rest =>
                obtain ⟨rfl, hb9⟩ := hcut
                go_wp2_with fail
                refine bodyPost_ret (v := .bool true) (by simp [results, Tryd.f8, go_sem]) rfl ⟨rfl, HBW.out.trans ((HB5.out.trans (hb9.mono hs5)).mono hws)⟩
    · obtain ⟨n, hn⟩ : ∃ n, newE pats exs left right = n := ⟨_, rfl⟩
      have HNE := Lib.hid (show newE (DictV.mk (.slice pao pats.length pcap) (.slice eao exs.length ecap) pats exs left right).pats (DictV.mk (.slice pao pats.length pcap) (.slice eao exs.length ecap) pats exs left right).exs (DictV.mk (.slice pao pats.length pcap) (.slice eao exs.length ecap) pats exs left right).left (DictV.mk (.slice pao pats.length pcap) (.slice eao exs.length ecap) pats exs left right).right = n from hn)
      rw [hn] at h0
      clear hn
      have en0 : (((n : Nat) : Int) == 0) = false := by rw [beq_eq_false_iff_ne]; omega
      have en1 : (n = 0) = False := by simp [h0]
      go_enter Tryd.func8, Tryd.ntmps8
      go_wp2_with (first
        | (go_at_call 12; have HB0 := HB3; refine (known_any _).mono ?_; unfold KnPost; rintro e w9 ⟨rfl, hb9⟩; have HB9 := Lib.hid (HB3.out.trans (hb9.mono HB3.out.size)); clear hb9)
        | (go_at_call 12; refine (known_any _).mono ?_; unfold KnPost; rintro e w1 ⟨rfl, hb1⟩; have HB1 := Lib.hid hb1; obtain ⟨c0, c1, c2, c3⟩ := (HBK.out.below hb1 HBK.out.lt).four; clear hb1)
        | (go_at_call 24; refine (HSM.out _ (HD.out.below HB1.out)).mono ?_; unfold BoolPost; rw [HSF.out]; rintro e w2 ⟨rfl, hb2⟩; have HB2 := Lib.hid (HB1.out.trans (hb2.mono HB1.out.size)); obtain ⟨c0, c1, c2, c3⟩ := (HBK.out.below HB2.out HBK.out.lt).four; clear hb2)
        | (go_at_call 26; refine (HC.out _ (HD.out.below HB2.out)).mono ?_; unfold NumPost; rw [HNE.out]; rintro e w3 ⟨rfl, hb3⟩; have HB3 := Lib.hid (HB2.out.trans (hb3.mono HB2.out.size)); obtain ⟨c0, c1, c2, c3⟩ := (HBK.out.below HB3.out HBK.out.lt).four; clear hb3))
      refine bodyPost_ret (v := .bool true) (by simp [results, Tryd.f8, go_sem]) rfl ⟨rfl, HBW.out.trans (HB9.out.mono hws)⟩
theorem levels_row {D : DictV} {v : Value} {w : World} (h : v = D.val ∧ D.At w) (a : ByteArray) (_ : a.size ≤ maxLen) : Calls Tryd.prog 8 #[v, .string a] w (KnPost w) := by
  obtain ⟨rfl, h⟩ := h
  have := levels_law D a.data.toList w h
  rw [str_back] at this
  exact this
end Go.Proofs.YtdcdlmigagjbiaaDoor
