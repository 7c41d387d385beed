/- The law Orders. -/
import Derived.Test.YtdcdlmigagjbiaaDoorHs8
import Derived.Test.YtdcdlmigagjbiaaDoorHp5
import Derived.Deep.DeepCutAuto
import Derived.StillTailTactics
import Derived.Deep.AppendLies
import Derived.BigRegion
import Derived.Deep.RegionHeld3
import Derived.Deep.QuietTactic
import Derived.BigQuiet
import Derived.IntWalk
namespace Go.Proofs.YtdcdlmigagjbiaaDoor
open Go.RowKit Go.Maps
def dupL (l : List (List UInt8)) : List (List UInt8) := l.flatMap fun s => [s, s]
theorem dupL_mem (l : List (List UInt8)) (s : List UInt8) : s ∈ dupL l ↔ s ∈ l := by
  unfold dupL
  rw [List.mem_flatMap]
  constructor
  · rintro ⟨x, hx, h⟩
    simp at h
    rw [h]; exact hx
  · intro h
    exact ⟨s, h, by simp⟩
theorem dupL_len (l : List (List UInt8)) : (dupL l).length = 2 * l.length := by
  induction l with
  | nil => rfl
  | cons x r ih =>
    have : dupL (x :: r) = [x, x] ++ dupL r := rfl
    rw [this, List.length_append, ih]; simp; omega
theorem rev_step {l : List (List UInt8)} {k : Nat} (h : k < l.length) : (l.drop k).reverse = (l.drop (k + 1)).reverse ++ [l.getD k []] := by
  rw [List.drop_eq_getElem_cons h, List.reverse_cons, List.getD_eq_getElem?_getD, List.getElem?_eq_getElem h]; rfl
theorem dup_step {l : List (List UInt8)} {k : Nat} (h : k < l.length) : dupL (l.drop k).reverse = dupL (l.drop (k + 1)).reverse ++ [l.getD k [], l.getD k []] := by
  rw [rev_step h]
  unfold dupL
  rw [List.flatMap_append]
  rfl
/-- two elements, or one, appended to a row of strings; the row stored into a block beside -/
theorem srow_grown {w w7 : World} {B g2 cap2 q n m : Nat} {v : Value} {l r : List (List UInt8)} {u : Value} {o : Obj} {V : World} (hn : n = l.length) (hm : m = r.length) (hl : w.ownsRow B 9 1 v n (l.map sv)) (hown : w7.ownsRow B 9 1 (.slice (some ⟨g2, 0, none⟩) (n + m) cap2) (n + m) (l.map sv ++ r.map sv))
    (hg : (w.alloc o).drew.grownBy w7 v.ownBlock) (hb : Below q V w) (hB : B ≤ w.heap.size) (hq : q < B) (i : Nat) :
    SRow ((w7.setCell ⟨q, i, none⟩ u)) B (.slice (some ⟨g2, 0, none⟩) (n + m) cap2) (l ++ r) ∧ Below q V (w7.setCell ⟨q, i, none⟩ u) ∧ w.heap.size ≤ w7.heap.size := by
  subst hn hm
  have hg' : (w.alloc o).grownBy w7 v.ownBlock := ⟨hg.os, hg.tape, hg.output, hg.size, hg.block⟩
  have t : Turn v.ownBlock.toList w w7 := ((Turn.refl _ w).alloc o).trans ((Turn.refl v.ownBlock.toList _).grown hg' (fun g e => .inl (by rw [e]; simp))) (fun i hi => .inl hi)
  have b1 : Below q V w7 := hb.trans (t.toBelow (fun i hi => by have := row_base hl i (by simpa using hi); omega) (by omega))
  refine ⟨?_, b1.setCell (p := ⟨q, i, none⟩) (Nat.le_refl _) _, t.size⟩
  have h1 : w7.ownsRow B 9 1 (.slice (some ⟨g2, 0, none⟩) (l.length + r.length) cap2) (l ++ r).length ((l ++ r).map sv) := by
    rw [List.length_append, List.map_append]; exact hown
  exact ownsRow_setCell_below h1 (a := ⟨q, i, none⟩) hq u
theorem srow_turned {w w7 z : World} {g2 cap2 q n m : Nat} {v : Value} {l r : List (List UInt8)} {u : Value} {o : Obj} (hn : n = l.length) (hm : m = r.length) (hl : w.ownsRow z.heap.size 9 1 v n (l.map sv)) (hown : w7.ownsRow z.heap.size 9 1 (.slice (some ⟨g2, 0, none⟩) (n + m) cap2) (n + m) (l.map sv ++ r.map sv))
    (hg : (w.alloc o).drew.grownBy w7 v.ownBlock) (ht : Turn [q] z w) (hq : q < z.heap.size) (i : Nat) :
    SRow ((w7.setCell ⟨q, i, none⟩ u)) z.heap.size (.slice (some ⟨g2, 0, none⟩) (n + m) cap2) (l ++ r) ∧ Turn [q] z (w7.setCell ⟨q, i, none⟩ u) := by
  subst hn hm
  have hg' : (w.alloc o).grownBy w7 v.ownBlock := ⟨hg.os, hg.tape, hg.output, hg.size, hg.block⟩
  have t : Turn v.ownBlock.toList w w7 := ((Turn.refl _ w).alloc o).trans ((Turn.refl v.ownBlock.toList _).grown hg' (fun g e => .inl (by rw [e]; simp))) (fun i hi => .inl hi)
  have b1 : Turn [q] z w7 := ht.trans t (fun i hi => .inr (row_base hl i (by simpa using hi)))
  refine ⟨?_, b1.setCell (p := ⟨q, i, none⟩) (.inl (by simp)) _⟩
  have h1 : w7.ownsRow z.heap.size 9 1 (.slice (some ⟨g2, 0, none⟩) (l.length + r.length) cap2) (l ++ r).length ((l ++ r).map sv) := by
    rw [List.length_append, List.map_append]; exact hown
  exact ownsRow_setCell_below h1 (a := ⟨q, i, none⟩) hq u
set_option maxRecDepth 100000 in
set_option maxHeartbeats 8000000 in
theorem orders_law (D : DictV) (t : List UInt8) (w : World) (H : D.At w) : Calls Tryd.prog 7 #[D.val, .string ⟨t.toArray⟩] w (KnPost w) := by
  obtain ⟨pv, ev, pats, exs, left, right⟩ := D
  obtain ⟨hp0, he0, hlb, hrb⟩ := id H
  have hp : Strs w pv pats := hp0
  have he : Strs w ev exs := he0
  have hlb : -9223372036854775808 ≤ left ∧ left ≤ 9223372036854775807 := hlb
  have hrb : -9223372036854775808 ≤ right ∧ right ≤ 9223372036854775807 := hrb
  have HPS := Lib.hid hp
  have HES := Lib.hid he
  have HH := Lib.hid H
  clear hp he hp0 he0 H
  obtain ⟨pao, pcap, hpv, _⟩ := id HPS.out
  obtain ⟨eao, ecap, hev, _⟩ := id HES.out
  subst hpv hev
  show Calls Tryd.prog 7 #[.agg #[.slice pao pats.length pcap, .slice eao exs.length ecap, .int .i64 left, .int .i64 right], .string ⟨t.toArray⟩] w (KnPost w)
  have HBK := Lib.hid (Blk.new w 44 #[.slice pao pats.length pcap, .slice eao exs.length ecap, .int .i64 left, .int .i64 right])
  have HBW := Lib.hid ((Below.refl w.heap.size w).alloc (Nat.le_refl _) (.cells #[.slice pao pats.length pcap, .slice eao exs.length ecap, .int .i64 left, .int .i64 right] 44))
  obtain ⟨W, hW⟩ : ∃ W, w.alloc (.cells #[.slice pao pats.length pcap, .slice eao exs.length ecap, .int .i64 left, .int .i64 right] 44) = W := ⟨_, rfl⟩
  rw [hW] at HBK HBW
  have hws := HBW.out.size
  have HD := Lib.hid (HH.out.below HBW.out)
  have HSM := Lib.hid (fun (w : World) h => small_any ⟨.slice pao pats.length pcap, .slice eao exs.length ecap, pats, exs, left, right⟩ w h)
  cases hsm : smallP pats exs with
  | false =>
    have HSF := Lib.hid (show smallP (DictV.mk (.slice pao pats.length pcap) (.slice eao exs.length ecap) pats exs left right).pats (DictV.mk (.slice pao pats.length pcap) (.slice eao exs.length ecap) pats exs left right).exs = false from hsm)
    clear hsm
    go_enter Tryd.func7, Tryd.ntmps7
    go_wp2_with (first
      | (go_at_call 12; have HB0 := HB2; refine (known_any _).mono ?_; unfold KnPost; rintro e w9 ⟨rfl, hb9⟩; have HB9 := Lib.hid (HB2.out.trans (hb9.mono HB2.out.size)); clear hb9)
      | (go_at_call 12; refine (known_any _).mono ?_; unfold KnPost; rintro e w1 ⟨rfl, hb1⟩; have HB1 := Lib.hid hb1; obtain ⟨c0, c1, c2, c3⟩ := (HBK.out.below hb1 HBK.out.lt).four; clear hb1)
      | (go_at_call 24; refine (HSM.out _ (HD.out.below HB1.out)).mono ?_; unfold BoolPost; rw [HSF.out]; rintro e w2 ⟨rfl, hb2⟩; have HB2 := Lib.hid (HB1.out.trans (hb2.mono HB1.out.size)); obtain ⟨c0, c1, c2, c3⟩ := (HBK.out.below HB2.out HBK.out.lt).four; clear hb2))
    refine bodyPost_ret (v := .bool true) (by simp [results, Tryd.f7, go_sem]) rfl ⟨rfl, HBW.out.trans (HB9.out.mono hws)⟩
  | true =>
    obtain ⟨b1, b2, b3, b4⟩ := smallP_iff.1 hsm
    have HSF := Lib.hid (show smallP (DictV.mk (.slice pao pats.length pcap) (.slice eao exs.length ecap) pats exs left right).pats (DictV.mk (.slice pao pats.length pcap) (.slice eao exs.length ecap) pats exs left right).exs = true from hsm)
    have HC := Lib.hid (fun (w : World) h => check_any ⟨.slice pao pats.length pcap, .slice eao exs.length ecap, pats, exs, left, right⟩ w h (fun s hs => by have := b3 s hs; omega) (fun s hs => by have := b4 s hs; omega))
    have HPL := Lib.hid b3
    have HEL := Lib.hid b4
    clear hsm b3 b4
    by_cases h20 : 20 < pats.length
    · have d20 : decide (20 < pats.length) = true := by simp [h20]
      go_enter Tryd.func7, Tryd.ntmps7
      go_wp2_with (first
        | (go_at_call 12; have HB0 := HB2; refine (known_any _).mono ?_; unfold KnPost; rintro e w9 ⟨rfl, hb9⟩; have HB9 := Lib.hid (HB2.out.trans (hb9.mono HB2.out.size)); clear hb9)
        | (go_at_call 12; refine (known_any _).mono ?_; unfold KnPost; rintro e w1 ⟨rfl, hb1⟩; have HB1 := Lib.hid hb1; obtain ⟨c0, c1, c2, c3⟩ := (HBK.out.below hb1 HBK.out.lt).four; clear hb1)
        | (go_at_call 24; refine (HSM.out _ (HD.out.below HB1.out)).mono ?_; unfold BoolPost; rw [HSF.out]; rintro e w2 ⟨rfl, hb2⟩; have HB2 := Lib.hid (HB1.out.trans (hb2.mono HB1.out.size)); obtain ⟨c0, c1, c2, c3⟩ := (HBK.out.below HB2.out HBK.out.lt).four; clear hb2))
      refine bodyPost_ret (v := .bool true) (by simp [results, Tryd.f7, go_sem]) rfl ⟨rfl, HBW.out.trans (HB9.out.mono hws)⟩
    have d20 : decide (20 < pats.length) = false := by simp [h20]
    have hp20 : pats.length ≤ 20 := by omega
    by_cases h0 : newE pats exs left right = 0
    · have HNE := Lib.hid (show newE (DictV.mk (.slice pao pats.length pcap) (.slice eao exs.length ecap) pats exs left right).pats (DictV.mk (.slice pao pats.length pcap) (.slice eao exs.length ecap) pats exs left right).exs (DictV.mk (.slice pao pats.length pcap) (.slice eao exs.length ecap) pats exs left right).left (DictV.mk (.slice pao pats.length pcap) (.slice eao exs.length ecap) pats exs left right).right = 0 from h0)
      have HN0 := Lib.hid h0
      clear h0
      by_cases h200 : 200 < t.length
      · have d200 : decide (200 < t.length) = true := by simp [h200]
        go_enter Tryd.func7, Tryd.ntmps7
        go_wp2_with (first
          | (go_at_call 12; have HB0 := HB3; refine (known_any _).mono ?_; unfold KnPost; rintro e w9 ⟨rfl, hb9⟩; have HB9 := Lib.hid (HB3.out.trans (hb9.mono HB3.out.size)); clear hb9)
          | (go_at_call 12; refine (known_any _).mono ?_; unfold KnPost; rintro e w1 ⟨rfl, hb1⟩; have HB1 := Lib.hid hb1; obtain ⟨c0, c1, c2, c3⟩ := (HBK.out.below hb1 HBK.out.lt).four; clear hb1)
          | (go_at_call 24; refine (HSM.out _ (HD.out.below HB1.out)).mono ?_; unfold BoolPost; rw [HSF.out]; rintro e w2 ⟨rfl, hb2⟩; have HB2 := Lib.hid (HB1.out.trans (hb2.mono HB1.out.size)); obtain ⟨c0, c1, c2, c3⟩ := (HBK.out.below HB2.out HBK.out.lt).four; clear hb2)
          | (go_at_call 26; refine (HC.out _ (HD.out.below HB2.out)).mono ?_; unfold NumPost; rw [HNE.out]; rintro e w3 ⟨rfl, hb3⟩; have HB3 := Lib.hid (HB2.out.trans (hb3.mono HB2.out.size)); obtain ⟨c0, c1, c2, c3⟩ := (HBK.out.below HB3.out HBK.out.lt).four; clear hb3))
        refine bodyPost_ret (v := .bool true) (by simp [results, Tryd.f7, go_sem]) rfl ⟨rfl, HBW.out.trans (HB9.out.mono hws)⟩
      · have d200 : decide (200 < t.length) = false := by simp [h200]
        have ht200 : t.length ≤ 200 := by omega
        obtain ⟨hl1, hl64, hr1, hr64⟩ := rangeB_no (newE_zero HN0.out).2.2.2.2.2
        obtain ⟨i0, hi, hz0, hz1, hz2⟩ := info_parts str_info
        have hex10 : exs.length ≤ 10 := b2
        have d20i : decide (20 < (pats.length : Int)) = false := by simp; omega
        have d200i : decide (200 < (t.length : Int)) = false := by simp; omega
        have HMD := Lib.hid (fun (w : World) h => made_yes ⟨.slice pao pats.length pcap, .slice eao exs.length ecap, pats, exs, left, right⟩ w h (fun s hs => by have := HPL.out s hs; omega) (fun s hs => by have := HEL.out s hs; omega) HN0.out)
        have HGD := Lib.hid (good_new HN0.out (fun s hs => by have := HEL.out s hs; omega))
        have HN2 := Lib.hid (newE_perm (pats' := dupL pats.reverse) (exs' := exs.reverse) HN0.out (fun s => by rw [dupL_mem, List.mem_reverse]) rfl (by rw [dupL_len, List.length_reverse]; omega))
        have HPL2 := Lib.hid (show ∀ s, s ∈ dupL pats.reverse → s.length ≤ 100000000 from fun s hs => by have := HPL.out s (by rwa [dupL_mem, List.mem_reverse] at hs); omega)
        have HEL2 := Lib.hid (show ∀ s, s ∈ exs.reverse → s.length ≤ 100000000 from fun s hs => by have := HEL.out s (by rwa [List.mem_reverse] at hs); omega)
        have HGD2 := Lib.hid (good_new HN2.out HEL2.out)
        have HPP := Lib.hid (points_perm HN0.out HN2.out (fun s => by rw [dupL_mem, List.mem_reverse]) rfl (foldP t))
        have HPA := Lib.hid (fun (w : World) (B hb : Nat) (H : Hyph w B hb (newS pats exs left right)) => hpoints_any H HGD.out (t := t) (by omega))
        have HPB := Lib.hid (fun (w : World) (B hb : Nat) (H : Hyph w B hb (newS (dupL pats.reverse) exs.reverse left right)) => hpoints_any H HGD2.out (t := t) (by omega))
        have HPF := Lib.hid (fun (w : World) (B hb : Nat) (H : Hyph w B hb (newS pats exs left right)) => hpoints_any H HGD.out (t := foldP t) (by rw [foldP_len]; omega))
        have HLA := Lib.hid (fun (w : World) (B hb : Nat) (H : Hyph w B hb (newS pats exs left right)) => levels_any H HGD.out (t := t) (by omega))
        have HLB := Lib.hid (fun (w : World) (B hb : Nat) (H : Hyph w B hb (newS (dupL pats.reverse) exs.reverse left right)) => levels_any H HGD2.out (t := t) (by omega))
        have hpl := points_len (pats := pats) (exs := exs) (left := left) (right := right) (fun s hs => HEL.out s hs) (foldP t)
        have hll0 : (levP (newS pats exs left right) (foldP t)).length ≤ 1000 := by
          unfold levP
          split
          · simp
          · rename_i l hl
            have := (wordP_some hl).2.2.2
            rw [levelsP_len]; omega
        rw [HPP.out.1] at HPB
        rw [HPP.out.2] at HLB
        rw [foldP_two] at HPF
        obtain ⟨ps, hps⟩ : ∃ ps, pointsP (newS pats exs left right) (foldP t) = ps := ⟨_, rfl⟩
        obtain ⟨lv, hlv⟩ : ∃ lv, levP (newS pats exs left right) (foldP t) = lv := ⟨_, rfl⟩
        rw [hps] at HPA HPB HPF hpl
        rw [hlv] at HLA HLB hll0
        have HSps := Lib.hid (show (ps == ps) = true by simp)
        have HSlv := Lib.hid (show (lv == lv) = true by simp)
        clear hps hlv HPP
        go_enter Tryd.func7, Tryd.ntmps7
        go_upto_region 4 with (first
          | (go_at_call 12; refine (known_any _).mono ?_; unfold KnPost; rintro e w1 ⟨rfl, hb1⟩; have HB1 := Lib.hid hb1; obtain ⟨c0, c1, c2, c3⟩ := (HBK.out.below hb1 HBK.out.lt).four; clear hb1)
          | (go_at_call 24; refine (HSM.out _ (HD.out.below HB1.out)).mono ?_; unfold BoolPost; rw [HSF.out]; rintro e w2 ⟨rfl, hb2⟩; have HB2 := Lib.hid (HB1.out.trans (hb2.mono HB1.out.size)); obtain ⟨c0, c1, c2, c3⟩ := (HBK.out.below HB2.out HBK.out.lt).four; clear hb2)
          | (go_at_call 26; refine (HC.out _ (HD.out.below HB2.out)).mono ?_; unfold NumPost; rw [HNE.out]; rintro e w3 ⟨rfl, hb3⟩; have HB3 := Lib.hid (HB2.out.trans (hb3.mono HB2.out.size)); obtain ⟨c0, c1, c2, c3⟩ := (HBK.out.below HB3.out HBK.out.lt).four; clear hb3))
        obtain ⟨V, hV⟩ : ∃ V, w3.alloc (.cells #[.slice none 0 0, .slice none 0 0, .int .i64 left, .int .i64 right] 44) = V := ⟨_, rfl⟩
        simp only [hV]
        have HQ := Lib.hid (show Blk V w3.heap.size 44 #[.slice none 0 0, .slice none 0 0, .int .i64 left, .int .i64 right] by rw [← hV]; exact Blk.new _ _ _)
        have HB3V := Lib.hid (show Below w3.heap.size w3 V by rw [← hV]; exact (Below.refl _ _).alloc (Nat.le_refl _) _)
        have hVs1 : w3.heap.size + 1 ≤ V.heap.size := by rw [← hV]; simp
        have hs3 := HB3.out.size
        clear c0 c1 c2 c3 hV
        obtain ⟨c0, c1, c2, c3⟩ := ((HBK.out.below HB3.out HBK.out.lt).below HB3V.out (Nat.lt_of_lt_of_le HBK.out.lt hs3)).four
        have zw0 : IntKind.i64.wrap ((pats.length : Int) - 1) = (pats.length : Int) - 1 := IntWalk.i64_in _ (by omega)
        go_wp2_with fail
        clear zw0
        go_loopw [6] (fun i wr => ∃ (k : Nat) (pv1 : Value), k ≤ pats.length ∧ i = .int .i64 ((k : Int) - 1) ∧ Hid (SRow wr V.heap.size pv1 (dupL (pats.drop k).reverse)) ∧ Hid (Blk wr w3.heap.size 44 #[pv1, .slice none 0 0, .int .i64 left, .int .i64 right]) ∧ Hid (Below w3.heap.size w3 wr) ∧ V.heap.size ≤ wr.heap.size) (fun i _ => (intOf i + 1).toNat)
        case atStart => exact ⟨pats.length, .slice none 0 0, Nat.le_refl _, rfl, Lib.hid (by rw [List.drop_length]; exact SRow.nil _ _), HQ, HB3V, Nat.le_refl _⟩
        case round =>
          clear c0 c1 c2 c3
          obtain ⟨k, pv1, hk, rfl, HR, HQR, HB, hVr⟩ := hrel
          have hrs := HB.out.size
          obtain ⟨c0, c1, c2, c3⟩ := ((HBK.out.below HB3.out HBK.out.lt).below HB.out (Nat.lt_of_lt_of_le HBK.out.lt hs3)).four
          by_cases hk0 : 0 < k
          · have dk : decide ((0 : Int) ≤ (k : Int) - 1) = true := by simp; omega
            obtain ⟨j, rfl⟩ : ∃ j, k = j + 1 := ⟨k - 1, by omega⟩
            obtain ⟨pb, poff, rfl, hcell⟩ := strs_at HPS.out (HBW.out.trans ((HB3.out.trans (HB.out.mono hs3)).mono hws)) (k := j) (by omega)
            have HDS := Lib.hid (dup_step (l := pats) (k := j) (by omega))
            obtain ⟨s, hs⟩ : ∃ s, pats.getD j [] = s := ⟨_, rfl⟩
            rw [hs] at hcell HDS
            obtain ⟨rao, rcap, rfl⟩ := row_slice HR.out
            obtain ⟨q0, q1, q2, q3⟩ := HQR.out.four
            have g0 := HQR.out.frozen 0
            have hj1 : ((j + 1 : Nat) : Int) - 1 = (j : Int) := by omega
            have hll := dupL_len (pats.drop (j + 1)).reverse
            clear hs
            rw [hj1]
            go_upto_region 7 with fail
            obtain ⟨DL, hDL⟩ : ∃ DL, dupL (pats.drop (j + 1)).reverse = DL := ⟨_, rfl⟩
            have hDLl : DL.length ≤ 40 := by rw [← hDL, hll, List.length_reverse, List.length_drop]; omega
            have HDL := Lib.hid hDL
            rw [hDL] at HR HDS q0 HQR
            clear hll hDL
            have hq3V : w3.heap.size < V.heap.size := by omega
            have hjp : j < pats.length := by omega
            have HRN := Lib.hid (show wr.ownsRow V.heap.size 9 1 (.slice rao DL.length rcap) DL.length (DL.map sv) from HR.out)
            have hnq : some w3.heap.size ≠ (Value.slice rao DL.length rcap).ownBlock := fun e => by have := row_base HR.out w3.heap.size e.symm; omega
            have HQA := Lib.hid (HQR.out.alloc (.cells #[.string ⟨s.toArray⟩, .string ⟨s.toArray⟩] 9))
            obtain ⟨a0, a1, a2, a3⟩ := HQA.out.four
            have HKA := Lib.hid (((HBK.out.below HB3.out HBK.out.lt).below HB.out (Nat.lt_of_lt_of_le HBK.out.lt hs3)).alloc (.cells #[.string ⟨s.toArray⟩, .string ⟨s.toArray⟩] 9))
            apply region_app (R := fun g2 cap2 w7 => w7.ownsRow V.heap.size 9 1 (.slice (some ⟨g2, 0, none⟩) (DL.length + 2) cap2) (DL.length + 2) (DL.map sv ++ [.string ⟨s.toArray⟩, .string ⟨s.toArray⟩]) ∧ (wr.alloc (.cells #[.string ⟨s.toArray⟩, .string ⟨s.toArray⟩] 9)).drew.grownBy w7 (Value.slice rao DL.length rcap).ownBlock)
            · go_region_law (first
                | (refine step_append_lies _ (by rfl) _ _ _ (by rfl) V.heap.size 9 i0 (.string ⟨#[]⟩) 1 16 Tryd.underlying28 hi hz0 hz1 hz2 rfl (by omega) (.slice rao DL.length rcap) DL.length (DL.map sv) (by rfl) (World.ownsRow.alloc HRN.out _)
                    ⟨wr.heap.size, 0, none⟩ 2 2 [.string ⟨s.toArray⟩, .string ⟨s.toArray⟩] (by rfl) (by rfl) (World.news_of_block (cs := #[.string ⟨s.toArray⟩, .string ⟨s.toArray⟩]) (t := 9) (fr := (0, 0)) (heap_alloc_new wr _)) (by simp [Value.oneCell', sv])
                    (by omega) (by unfold maxLen; omega) (by omega) (by simp; omega) (wr.heap.size + 1) (by simp) ?_; intro g2 cap2 w7 hown hg hat hlt2; have BQ7 := Lib.hid (Blk.grown (w := (wr.alloc (.cells #[.string ⟨s.toArray⟩, .string ⟨s.toArray⟩] 9)).drew) (Blk.drew HQA.out) hg hnq); obtain ⟨v0, v1, v2, v3⟩ := BQ7.out.four; have j0 := BQ7.out.frozen 0; have HOW := Lib.hid hown; have HGR := Lib.hid hg; clear hown hg hat))
              all_goals exact ⟨g2, cap2, w7, rfl, rfl, HOW.out, HGR.out⟩
            intro g2 cap2 w7 hR
            obtain ⟨s1, s2, s3⟩ := srow_grown (r := [s, s]) (u := .slice (some ⟨g2, 0, none⟩) (DL.length + 2) cap2) (m := 2) rfl rfl HRN.out hR.1 hR.2 HB.out hVr hq3V 0
            have HBQ := Lib.hid ((Blk.grown (w := (wr.alloc (.cells #[.string ⟨s.toArray⟩, .string ⟨s.toArray⟩] 9)).drew) (Blk.drew HQA.out) hR.2 hnq).set_ 0 (.slice (some ⟨g2, 0, none⟩) (DL.length + 2) cap2))
            have S1 := Lib.hid s1
            have S2 := Lib.hid s2
            have hw7 : V.heap.size ≤ w7.heap.size := by omega
            clear s1 s2 s3 hR a0 a1 a2 a3 q0 q1 q2 q3 g0
            have ziw : IntKind.i64.wrap ((j : Int) - 1) = (j : Int) - 1 := IntWalk.i64_in _ (by omega)
            go_wp2_with fail
            clear ziw
            exact ⟨⟨j, .slice (some ⟨g2, 0, none⟩) (DL.length + 2) cap2, by omega, rfl, Lib.hid (by rw [HDS.out]; exact S1.out), HBQ, S2, by first | (simp; done) | (simp; exact hw7)⟩, by first | (simp [intOf]; done) | (simp [intOf]; omega)⟩
          · have hk : k = 0 := by omega
            subst hk
            have dk : decide ((0 : Int) ≤ ((0 : Nat) : Int) - 1) = false := by simp
            have HRP := Lib.hid (show SRow wr V.heap.size pv1 (dupL pats.reverse) from HR.out)
            obtain ⟨wz, rfl⟩ : ∃ wz, wz = wr := ⟨_, rfl⟩
            have HBZ := HB
            have HQZ := HQR
            have hVz := hVr
            have hzr := hrs
            have zw0 : IntKind.i64.wrap ((exs.length : Int) - 1) = (exs.length : Int) - 1 := IntWalk.i64_in _ (by omega)
            clear HR HQR HB hVr hrs
            go_wp2_with fail
            clear zw0
            go_loopw [7] (fun i wr => ∃ (k : Nat) (pv2 : Value), k ≤ exs.length ∧ i = .int .i64 ((k : Int) - 1) ∧ Hid (SRow wr wz.heap.size pv2 (exs.drop k).reverse) ∧ Hid (Blk wr w3.heap.size 44 #[pv1, pv2, .int .i64 left, .int .i64 right]) ∧ Hid (Turn [w3.heap.size] wz wr)) (fun i _ => (intOf i + 1).toNat)
            case atStart => exact ⟨exs.length, .slice none 0 0, Nat.le_refl _, rfl, Lib.hid (by rw [List.drop_length]; exact SRow.nil _ _), HQZ, Lib.hid (Turn.refl _ _)⟩
            case round =>
              clear c0 c1 c2 c3
              obtain ⟨k, pv2, hk, rfl, HR, HQR, HT⟩ := hrel
              have hrs := HT.out.size
              have HB := Lib.hid (show Below w3.heap.size w3 wr from HBZ.out.trans (HT.out.toBelow (fun i hi => by simp at hi; omega) (by omega)))
              obtain ⟨c0, c1, c2, c3⟩ := ((HBK.out.below HB3.out HBK.out.lt).below HB.out (Nat.lt_of_lt_of_le HBK.out.lt hs3)).four
              by_cases hk0 : 0 < k
              · have dk : decide ((0 : Int) ≤ (k : Int) - 1) = true := by simp; omega
                obtain ⟨j, rfl⟩ : ∃ j, k = j + 1 := ⟨k - 1, by omega⟩
                obtain ⟨pb, poff, rfl, hcell⟩ := strs_at HES.out (HBW.out.trans ((HB3.out.trans (HB.out.mono hs3)).mono hws)) (k := j) (by omega)
                have HDS := Lib.hid (rev_step (l := exs) (k := j) (by omega))
                obtain ⟨s, hs⟩ : ∃ s, exs.getD j [] = s := ⟨_, rfl⟩
                rw [hs] at hcell HDS
                obtain ⟨rao, rcap, rfl⟩ := row_slice HR.out
                have hj1 : ((j + 1 : Nat) : Int) - 1 = (j : Int) := by omega
                clear hs
                rw [hj1]
                obtain ⟨DL, hDL⟩ : ∃ DL, (exs.drop (j + 1)).reverse = DL := ⟨_, rfl⟩
                have hDLl : DL.length ≤ 10 := by rw [← hDL, List.length_reverse, List.length_drop]; omega
                rw [hDL] at HR HDS HQR
                clear hDL
                obtain ⟨q0, q1, q2, q3⟩ := HQR.out.four
                have g1 := HQR.out.frozen 1
                have hjp : j < exs.length := by omega
                have hq3V : w3.heap.size < wz.heap.size := by omega
                have HRN := Lib.hid (show wr.ownsRow wz.heap.size 9 1 (.slice rao DL.length rcap) DL.length (DL.map sv) from HR.out)
                have hnq : some w3.heap.size ≠ (Value.slice rao DL.length rcap).ownBlock := fun e => by have := row_base HR.out w3.heap.size e.symm; omega
                have HQA := Lib.hid (HQR.out.alloc (.cells #[.string ⟨s.toArray⟩] 9))
                obtain ⟨a0, a1, a2, a3⟩ := HQA.out.four
                go_upto_region 11 with fail
                apply region_app (R := fun g2 cap2 w7 => w7.ownsRow wz.heap.size 9 1 (.slice (some ⟨g2, 0, none⟩) (DL.length + 1) cap2) (DL.length + 1) (DL.map sv ++ [.string ⟨s.toArray⟩]) ∧ (wr.alloc (.cells #[.string ⟨s.toArray⟩] 9)).drew.grownBy w7 (Value.slice rao DL.length rcap).ownBlock)
                · go_region_law (first
                    | (refine step_append_lies _ (by rfl) _ _ _ (by rfl) wz.heap.size 9 i0 (.string ⟨#[]⟩) 1 16 Tryd.underlying28 hi hz0 hz1 hz2 rfl (by omega) (.slice rao DL.length rcap) DL.length (DL.map sv) (by rfl) (World.ownsRow.alloc HRN.out _)
                        ⟨wr.heap.size, 0, none⟩ 1 1 [.string ⟨s.toArray⟩] (by rfl) (by rfl) (World.news_of_block (cs := #[.string ⟨s.toArray⟩]) (t := 9) (fr := (0, 0)) (heap_alloc_new wr _)) (by simp [Value.oneCell', sv])
                        (by omega) (by unfold maxLen; omega) (by omega) (by simp; omega) (wr.heap.size + 1) (by simp) ?_; intro g2 cap2 w7 hown hg hat hlt2; have BQ7 := Lib.hid (Blk.grown (w := (wr.alloc (.cells #[.string ⟨s.toArray⟩] 9)).drew) (Blk.drew HQA.out) hg hnq); obtain ⟨v0, v1, v2, v3⟩ := BQ7.out.four; have j1 := BQ7.out.frozen 1; have HOW := Lib.hid hown; have HGR := Lib.hid hg; clear hown hg hat))
                  all_goals exact ⟨g2, cap2, w7, rfl, rfl, HOW.out, HGR.out⟩
                intro g2 cap2 w7 hR
                obtain ⟨s1, s2⟩ := srow_turned (r := [s]) (u := .slice (some ⟨g2, 0, none⟩) (DL.length + 1) cap2) (m := 1) rfl rfl HRN.out hR.1 hR.2 HT.out hq3V 1
                have HBQ := Lib.hid ((Blk.grown (w := (wr.alloc (.cells #[.string ⟨s.toArray⟩] 9)).drew) (Blk.drew HQA.out) hR.2 hnq).set_ 1 (.slice (some ⟨g2, 0, none⟩) (DL.length + 1) cap2))
                have S1 := Lib.hid s1
                have S2 := Lib.hid s2
                clear s1 s2 hR a0 a1 a2 a3 q0 q1 q2 q3 g1
                have ziw : IntKind.i64.wrap ((j : Int) - 1) = (j : Int) - 1 := IntWalk.i64_in _ (by omega)
                go_wp2_with fail
                clear ziw
                refine ⟨?_, by first | (simp [intOf]; done) | (simp [intOf]; omega)⟩
                repeat apply Exists.intro
                exact ⟨⟨j, .slice (some ⟨g2, 0, none⟩) (DL.length + 1) cap2, by omega, rfl, Lib.hid (by rw [HDS.out]; exact S1.out), HBQ, S2⟩, rfl⟩
              · have hk : k = 0 := by omega
                subst hk
                have dk : decide ((0 : Int) ≤ ((0 : Nat) : Int) - 1) = false := by simp
                have HRX := Lib.hid (show SRow wr wz.heap.size pv2 exs.reverse from HR.out)
                have HRY := Lib.hid (row_turn HRP.out HT.out (fun g hg hm => by have := row_base HRP.out g hg; simp at hm; omega))
                have hbl1 : Below W.heap.size W wr := HB3.out.trans (HB.out.mono hs3)
                have HBR := Lib.hid hbl1
                have hsr := hbl1.size
                clear hbl1
                have HKR := Lib.hid HQR.out
                go_wp2_with fail
                go_at_call 27
                refine (HMD.out _ (HD.out.below HBR.out)).mono ?_
                unfold MadeY
                rintro e w4 ⟨hb, B, rfl, hb4, hh⟩
                have HB4 := Lib.hid (HBR.out.trans (hb4.mono hsr))
                have HY4 := Lib.hid hh
                have HQ4 := Lib.hid (HKR.out.below hb4 HKR.out.lt)
                have HP4 := Lib.hid (SRow.below HRY.out hb4).strs
                have HX4 := Lib.hid (SRow.below HRX.out hb4).strs
                clear hb4 hh c0 c1 c2 c3
                have hs4 := HB4.out.size
                obtain ⟨c0, c1, c2, c3⟩ := HQ4.out.four
                go_wp2_with fail
                go_at_call 27
                refine (made_yes ⟨pv1, pv2, dupL pats.reverse, exs.reverse, left, right⟩ _ ⟨HP4.out, HX4.out, hlb, hrb⟩ HPL2.out HEL2.out HN2.out).mono ?_
                unfold MadeY
                rintro e w5 ⟨hb', B', rfl, hb5, hh⟩
                have HB5 := Lib.hid (HB4.out.trans (hb5.mono hs4))
                have HY5 := Lib.hid (HY4.out.below hb5)
                have HZ5 := Lib.hid hh
                clear hb5 hh c0 c1 c2 c3
                have hs5 := HB5.out.size
                go_wp2_with fail
                go_at_call 15
                refine (HPA.out _ _ _ HY5.out).mono ?_
                unfold LevPost
                rintro e w6 ⟨v6, rfl, hb6, hr6⟩
                have HR6 := Lib.hid (Ints.of_owns hr6)
                have HB6 := Lib.hid (HB5.out.trans (hb6.mono hs5))
                have HY6 := Lib.hid (HY5.out.below hb6)
                have HZ6 := Lib.hid (HZ5.out.below hb6)
                clear hb6
                have hs6 := HB6.out.size
                go_wp2_with fail
                go_at_call 15
                refine (HPB.out _ _ _ HZ6.out).mono ?_
                unfold LevPost
                rintro e w7 ⟨v7, rfl, hb7, hr7⟩
                have HR7 := Lib.hid (Ints.of_owns hr7)
                have HB7 := Lib.hid (HB6.out.trans (hb7.mono hs6))
                have HY7 := Lib.hid (HY6.out.below hb7)
                have HZ7 := Lib.hid (HZ6.out.below hb7)
                have HR6_7 := Lib.hid (HR6.out.below hb7)
                clear hb7
                have hs7 := HB7.out.size
                go_wp2_with fail
                go_at_call 28
                refine (same_any _ _ ps ps _ (by omega) (by omega) HR6_7.out HR7.out).mono ?_
                unfold SamePost
                rw [HSps.out]
                rintro e w8 ⟨rfl, hb8⟩
                have HB8 := Lib.hid (HB7.out.trans (hb8.mono hs7))
                have HY8 := Lib.hid (HY7.out.below hb8)
                have HZ8 := Lib.hid (HZ7.out.below hb8)
                clear hb8
                have hs8 := HB8.out.size
                go_wp2_with fail
                go_at_call 15
                refine (HPA.out _ _ _ HY8.out).mono ?_
                unfold LevPost
                rintro e w9 ⟨v9, rfl, hb9, hr9⟩
                have HR9 := Lib.hid (Ints.of_owns hr9)
                have HB9 := Lib.hid (HB8.out.trans (hb9.mono hs8))
                have HY9 := Lib.hid (HY8.out.below hb9)
                have HZ9 := Lib.hid (HZ8.out.below hb9)
                clear hb9
                have hs9 := HB9.out.size
                go_wp2_with fail
                go_at_call 29
                refine (fold_at t (by omega) _).mono ?_
                rintro e w10 ⟨rfl, hb10⟩
                have HB10 := Lib.hid (HB9.out.trans (hb10.mono hs9))
                have HY10 := Lib.hid (HY9.out.below hb10)
                have HZ10 := Lib.hid (HZ9.out.below hb10)
                have HR9_10 := Lib.hid (HR9.out.below hb10)
                clear hb10
                have hs10 := HB10.out.size
                go_wp2_with fail
                go_at_call 15
                refine (HPF.out _ _ _ HY10.out).mono ?_
                unfold LevPost
                rintro e w11 ⟨v11, rfl, hb11, hr11⟩
                have HR11 := Lib.hid (Ints.of_owns hr11)
                have HB11 := Lib.hid (HB10.out.trans (hb11.mono hs10))
                have HY11 := Lib.hid (HY10.out.below hb11)
                have HZ11 := Lib.hid (HZ10.out.below hb11)
                have HR9_11 := Lib.hid (HR9_10.out.below hb11)
                clear hb11
                have hs11 := HB11.out.size
                go_wp2_with fail
                go_at_call 28
                refine (same_any _ _ ps ps _ (by omega) (by omega) HR9_11.out HR11.out).mono ?_
                unfold SamePost
                rw [HSps.out]
                rintro e w12 ⟨rfl, hb12⟩
                have HB12 := Lib.hid (HB11.out.trans (hb12.mono hs11))
                have HY12 := Lib.hid (HY11.out.below hb12)
                have HZ12 := Lib.hid (HZ11.out.below hb12)
                clear hb12
                have hs12 := HB12.out.size
                go_wp2_with fail
                go_at_call 14
                refine (HLA.out _ _ _ HY12.out).mono ?_
                unfold LevPost
                rintro e w13 ⟨v13, rfl, hb13, hr13⟩
                have HR13 := Lib.hid (Ints.of_owns hr13)
                have HB13 := Lib.hid (HB12.out.trans (hb13.mono hs12))
                have HY13 := Lib.hid (HY12.out.below hb13)
                have HZ13 := Lib.hid (HZ12.out.below hb13)
                clear hb13
                have hs13 := HB13.out.size
                go_wp2_with fail
                go_at_call 14
                refine (HLB.out _ _ _ HZ13.out).mono ?_
                unfold LevPost
                rintro e w14 ⟨v14, rfl, hb14, hr14⟩
                have HR14 := Lib.hid (Ints.of_owns hr14)
                have HB14 := Lib.hid (HB13.out.trans (hb14.mono hs13))
                have HY14 := Lib.hid (HY13.out.below hb14)
                have HZ14 := Lib.hid (HZ13.out.below hb14)
                have HR13_14 := Lib.hid (HR13.out.below hb14)
                clear hb14
                have hs14 := HB14.out.size
                go_wp2_with fail
                go_at_call 28
                refine (same_any _ _ lv lv _ (by omega) (by omega) HR13_14.out HR14.out).mono ?_
                unfold SamePost
                rw [HSlv.out]
                rintro e w15 ⟨rfl, hb15⟩
                have HB15 := Lib.hid (HB14.out.trans (hb15.mono hs14))
                have HY15 := Lib.hid (HY14.out.below hb15)
                have HZ15 := Lib.hid (HZ14.out.below hb15)
                clear hb15
                have hs15 := HB15.out.size
                go_wp2_with fail
                refine bodyPost_ret (v := .bool true) (by simp [results, Tryd.f7, go_sem]) rfl ⟨rfl, HBW.out.trans (HB15.out.mono hws)⟩
    · obtain ⟨n, hn⟩ : ∃ n, newE pats exs left right = n := ⟨_, rfl⟩
      have HNE := Lib.hid (show newE (DictV.mk (.slice pao pats.length pcap) (.slice eao exs.length ecap) pats exs left right).pats (DictV.mk (.slice pao pats.length pcap) (.slice eao exs.length ecap) pats exs left right).exs (DictV.mk (.slice pao pats.length pcap) (.slice eao exs.length ecap) pats exs left right).left (DictV.mk (.slice pao pats.length pcap) (.slice eao exs.length ecap) pats exs left right).right = n from hn)
      rw [hn] at h0
      clear hn
      have en0 : (((n : Nat) : Int) == 0) = false := by rw [beq_eq_false_iff_ne]; omega
      have en1 : (n = 0) = False := by simp [h0]
      go_enter Tryd.func7, Tryd.ntmps7
      go_wp2_with (first
        | (go_at_call 12; have HB0 := HB3; refine (known_any _).mono ?_; unfold KnPost; rintro e w9 ⟨rfl, hb9⟩; have HB9 := Lib.hid (HB3.out.trans (hb9.mono HB3.out.size)); clear hb9)
        | (go_at_call 12; refine (known_any _).mono ?_; unfold KnPost; rintro e w1 ⟨rfl, hb1⟩; have HB1 := Lib.hid hb1; obtain ⟨c0, c1, c2, c3⟩ := (HBK.out.below hb1 HBK.out.lt).four; clear hb1)
        | (go_at_call 24; refine (HSM.out _ (HD.out.below HB1.out)).mono ?_; unfold BoolPost; rw [HSF.out]; rintro e w2 ⟨rfl, hb2⟩; have HB2 := Lib.hid (HB1.out.trans (hb2.mono HB1.out.size)); obtain ⟨c0, c1, c2, c3⟩ := (HBK.out.below HB2.out HBK.out.lt).four; clear hb2)
        | (go_at_call 26; refine (HC.out _ (HD.out.below HB2.out)).mono ?_; unfold NumPost; rw [HNE.out]; rintro e w3 ⟨rfl, hb3⟩; have HB3 := Lib.hid (HB2.out.trans (hb3.mono HB2.out.size)); obtain ⟨c0, c1, c2, c3⟩ := (HBK.out.below HB3.out HBK.out.lt).four; clear hb3))
      refine bodyPost_ret (v := .bool true) (by simp [results, Tryd.f7, go_sem]) rfl ⟨rfl, HBW.out.trans (HB9.out.mono hws)⟩
theorem orders_row {D : DictV} {v : Value} {w : World} (h : v = D.val ∧ D.At w) (a : ByteArray) (_ : a.size ≤ maxLen) : Calls Tryd.prog 7 #[v, .string a] w (KnPost w) := by
  obtain ⟨rfl, h⟩ := h
  have := orders_law D a.data.toList w h
  rw [str_back] at this
  exact this
end Go.Proofs.YtdcdlmigagjbiaaDoor
