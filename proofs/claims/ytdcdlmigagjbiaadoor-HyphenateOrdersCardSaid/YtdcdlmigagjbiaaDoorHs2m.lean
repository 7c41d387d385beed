/- The law's parse walked, all ways. -/
import Derived.Test.YtdcdlmigagjbiaaDoorHs2v2
import Derived.Test.YtdcdlmigagjbiaaDoorHs2v3
import Derived.Test.YtdcdlmigagjbiaaDoorHs2v4
import Derived.Test.YtdcdlmigagjbiaaDoorHs2v5
import Derived.Deep.RegionHeld3
import Derived.Deep.QuietTactic
import Derived.IntWalk
namespace Go.Proofs.YtdcdlmigagjbiaaDoor
open Go.RowKit Go.Maps
set_option maxRecDepth 100000 in
set_option maxHeartbeats 16000000 in
theorem parse2_v1 (s : List UInt8) (hs : s.length ≤ 1000000) (w : World) (i0 : TypeInfo) (_hi : Tryd.prog.info? 3 = some i0) (_hz0 : i0.zero = some (.int .i64 0)) (_hz1 : i0.size = 1) (_hz2 : i0.bytes = 8) (L : List Int) (hlen : L.length ≤ s.length)
    (HPt : Hid (∀ w : World, Calls Tryd.prog 38 #[.string ⟨s.toArray⟩] w fun e w' => ∃ ao cap, e = .returned (.tuple #[.slice ao L.length cap, .int .i64 0]) ∧ Below w.heap.size w w' ∧ Hid (IntRow w' w.heap.size (.slice ao L.length cap) L)))
    (HPo : Hid (par2 s = (patOf L, decide (printP (patOf L) = (0, s))))) (HLK : Hid (okI L = true)) (_hL0 : ¬ L.length = 0) (x y : Int) (HX : Hid (L.getD 0 0 = x)) (HY : Hid (L.getD (L.length - 1) 0 = y))
    (hx46 : x = 46) (h1 : L.length = 1) :
    Calls Tryd.prog 22 #[.string ⟨s.toArray⟩] w (Par2Post s w) := by
  have hpos : 0 < L.length := by omega
  have d0 : decide (0 < L.length) = true := by simp [hpos]
  have z1 : (1 : Int) ≤ (L.length : Int) := by omega
  have z3 : 1 ≤ L.length := hpos
  have e0 : (x == 46) = true := by simp [hx46]
  have d1 : decide (1 < L.length) = false := by simp; omega
  go_enter Tryd.func22, Tryd.ntmps22
  go_wp2_with (first
    | (go_at_call 38; refine (HPt.out _).mono ?_; rintro e w1 ⟨ao, cap, rfl, hb1, hrow⟩; have hbW := ((Below.refl w.heap.size w).alloc (Nat.le_refl _) (.cells #[.string ⟨#[]⟩, .slice none 0 0, .bool false, .bool false] 33)).trans (hb1.mono (by simp)); have hw1 := hb1.size; simp at hw1; have B1 := (Blk.new w 33 #[.string ⟨#[]⟩, .slice none 0 0, .bool false, .bool false]).below hb1 (by simp); obtain ⟨b, off, rfl, hblt, hcl, hlc, hcm⟩ := ints_pos (Ints.of_owns hrow.out) hpos; have hcA : ∀ (o o2 : Obj) j, j < L.length → ((w1.alloc o).alloc o2).cell? ⟨b, off + j, none⟩ = some (.int .i64 (L.getD j 0)) := fun o o2 j hj => (World.cell?_of_block (a := ⟨b, off + j, none⟩) ((Below.heap_alloc (w1.alloc o) o2 b (by simp; omega)).trans (Below.heap_alloc w1 o b hblt))).trans (hcl j hj); have HCL := Lib.hid hcA; have hc0 := hcA (.cells #[.int .i64 0] 3) (.cells #[.string ⟨#[]⟩, .slice (some ⟨w1.heap.size, 0, none⟩) 1 1, .bool false, .bool false] 33) 0 hpos; rw [HX.out, Nat.add_zero] at hc0; have hcY := hcA (.cells #[.int .i64 0] 3) (.cells #[.string ⟨#[]⟩, .slice (some ⟨w1.heap.size, 0, none⟩) 1 1, .bool true, .bool false] 33) (L.length - 1) (by omega); rw [HY.out] at hcY; clear hcl hcA; have z2 : (L.length : Int) ≤ (cap : Int) := (by omega); have HQ := Lib.hid (Blk.new (w1.alloc (.cells #[.int .i64 0] 3)) 33 #[.string ⟨#[]⟩, .slice (some ⟨w1.heap.size, 0, none⟩) 1 1, .bool false, .bool false]); have HQ2 := Lib.hid (Blk.new (w1.alloc (.cells #[.int .i64 0] 3)) 33 #[.string ⟨#[]⟩, .slice (some ⟨w1.heap.size, 0, none⟩) 1 1, .bool true, .bool false]); have g2 := HQ.out.frozen 2; have g3 := HQ2.out.frozen 3; obtain ⟨q0, q1, q2, q3⟩ := HQ.out.four; obtain ⟨p0, p1, p2, p3⟩ := HQ2.out.four; rw [show (w1.alloc (.cells #[.int .i64 0] 3)).heap.size = w1.heap.size + 1 from by simp] at g2 g3 q0 q1 q2 q3 p0 p1 p2 p3))
  apply region_one
  · go_region_law (fail)
    all_goals exact ⟨rfl, rfl⟩
  go_wp2_with fail
  all_goals
    obtain ⟨V, hV⟩ : ∃ V, ((w1.alloc (.cells #[.int .i64 0] 3)).alloc (.cells #[.string ⟨#[]⟩, .slice (some ⟨w1.heap.size, 0, none⟩) 1 1, .bool true, .bool false] 33)).drew = V := ⟨_, rfl⟩
    have HCV : ∀ j, j < L.length → V.cell? ⟨b, off + j, none⟩ = some (.int .i64 (L.getD j 0)) := by
      rw [← hV]
      exact HCL.out (.cells #[.int .i64 0] 3) (.cells #[.string ⟨#[]⟩, .slice (some ⟨w1.heap.size, 0, none⟩) 1 1, .bool true, .bool false] 33)
    simp only [hV]
    have HCL := Lib.hid HCV
    clear HCV
    obtain ⟨M, hMd, hMn⟩ : ∃ M, L.tail = M ∧ M.length = L.length - 1 := ⟨L.tail, rfl, by simp; try omega⟩
    have hM : stripE (stripB L) = M ∧ hasB L = true ∧ hasE (stripB L) = false := by
      rw [← hMd]
      exact strip_b0 HX.out HY.out hpos hx46 h1
    have hMok : okI M = true := by
      have h1 := HLK.out
      unfold okI at h1 ⊢
      rw [List.all_eq_true] at h1 ⊢
      intro x hx
      exact h1 x (strip_mem (l := L) (by rw [hM.1]; exact hx))
    have hMg : ∀ j, j < M.length → M.getD j 0 = L.getD (j + 1) 0 := fun j hj => by rw [← hMd] at hj ⊢; exact strip_get_t L j
    have HMG := Lib.hid hMg
    clear hMg hMd
    have HM := Lib.hid (show stripE (stripB L) = M ∧ hasB L = true ∧ hasE (stripB L) = false from hM)
    have HPat := Lib.hid (show patOf L = ⟨encI (parseGo 0 M).1, (parseGo 0 M).2, true, false⟩ by unfold patOf; rw [HM.out.1, HM.out.2.1, HM.out.2.2])
    have HOKM := Lib.hid (show okI M = true from hMok)
    have hMl : M.length ≤ s.length := by have := strip_len L; rw [HM.out.1] at this; omega
    have HVB := Lib.hid (show Below w1.heap.size w1 V by rw [← hV]; exact below_drew (((Below.refl _ w1).alloc (Nat.le_refl _) _).alloc (by simp) _))
    have HVQ := Lib.hid (show Blk V (w1.heap.size + 1) 33 #[.string ⟨#[]⟩, .slice (some ⟨w1.heap.size, 0, none⟩) 1 1, .bool true, .bool false] by rw [← hV]; have := Blk.new (w1.alloc (.cells #[.int .i64 0] 3)) 33 #[.string ⟨#[]⟩, .slice (some ⟨w1.heap.size, 0, none⟩) 1 1, .bool true, .bool false]; rw [show (w1.alloc (.cells #[.int .i64 0] 3)).heap.size = w1.heap.size + 1 from by simp] at this; exact this)
    have HVR := Lib.hid (show IntRow V w1.heap.size (.slice (some ⟨w1.heap.size, 0, none⟩) 1 1) ([] ++ [(0 : Int)]) by rw [← hV]; exact blk_row (out := [0]) (Blk.new w1 3 #[.int .i64 0] |>.alloc _) (Nat.le_refl _) (by decide))
    have HB1 := Lib.hid B1
    have HBW := Lib.hid hbW
    have hVs : V.heap.size = w1.heap.size + 2 := by rw [← hV]; show ((w1.alloc (.cells #[.int .i64 0] 3)).alloc (.cells #[.string ⟨#[]⟩, .slice (some ⟨w1.heap.size, 0, none⟩) 1 1, .bool true, .bool false] 33)).heap.size = _; simp
    clear hM hV B1 hbW hMok
    obtain ⟨q, hq⟩ : ∃ q, w1.heap.size + 1 = q := ⟨_, rfl⟩
    rw [hq] at HVQ
    simp only [hq]
    have hwq : w1.heap.size < q := by omega
    have hqV : q < V.heap.size := by omega
    go_loopw [8] (fun i wr => ∃ (k : Nat) (lv : Int) (word levels : List Int) (pv : Value), k ≤ M.length ∧ i = .int .i64 (k : Int) ∧ Hid (IntRow wr w1.heap.size pv (levels ++ [lv])) ∧ Hid (pv.ownBlock ≠ some q) ∧ Hid (Blk wr q 33 #[.string ⟨(encI word).toArray⟩, pv, .bool true, .bool false]) ∧ Hid (Below w1.heap.size w1 wr) ∧ Hid (word ++ (parseGo lv (M.drop k)).1 = (parseGo 0 M).1) ∧ Hid (levels ++ (parseGo lv (M.drop k)).2 = (parseGo 0 M).2) ∧ word.length ≤ k ∧ levels.length ≤ k) (fun i _ => M.length - (intOf i).toNat)
    case atStart => exact ⟨0, 0, [], [], (.slice (some ⟨w1.heap.size, 0, none⟩) 1 1), Nat.zero_le _, rfl, HVR, Lib.hid (by simp [Value.ownBlock]; omega), HVQ, HVB, Lib.hid rfl, Lib.hid rfl, Nat.zero_le _, Nat.zero_le _⟩
    case round =>
      obtain ⟨k, lv, word, levels, pv, hk, rfl, HP, HNE, HBQ, HB, HW2, HL2, hwl, hll⟩ := hrel
      have hrs := HB.out.size
      have hqlt : q < wr.heap.size := HBQ.out.lt
      obtain ⟨q0, q1, q2, q3⟩ := HBQ.out.four
      have g0 := HBQ.out.frozen 0
      have g1 := HBQ.out.frozen 1
      obtain ⟨g, pcap, rfl, hpn, hpm, hglt, _⟩ := row_cell HP.out (by simp)
      obtain ⟨ll, hll'⟩ : ∃ ll, levels ++ [lv] = ll := ⟨_, rfl⟩
      have hlle : ll.length = levels.length + 1 := by rw [← hll']; simp
      rw [hll'] at HP HNE HBQ hpn q1
      have HLL := Lib.hid hll'
      clear hll'
      by_cases hlt : k < M.length
      · exact absurd hlt (by omega)
      · have hke : k = M.length := by omega
        have hnil : M.drop k = [] := by rw [hke]; exact List.drop_length
        have hW3 : word = (parseGo 0 M).1 := by have := HW2.out; rw [hnil] at this; simpa [parseGo] using this
        have hL3 : ll = (parseGo 0 M).2 := by have := HL2.out; rw [hnil] at this; rw [← HLL.out]; simpa [parseGo] using this
        have HPat2 := Lib.hid (show patOf L = ⟨encI word, ll, true, false⟩ by rw [HPat.out, hW3, hL3])
        have hel := encI_le word
        have d7 : decide (k < M.length) = false := by simp [hlt]
        obtain ⟨nc, tx, hpr⟩ : ∃ nc tx, printP (patOf L) = (nc, tx) := ⟨_, _, rfl⟩
        have HPR := Lib.hid hpr
        have HPO2 := Lib.hid (show par2 s = (⟨encI word, ll, true, false⟩, decide ((nc, tx) = (0, s))) by rw [HPo.out, hpr, HPat2.out])
        have HPV := Lib.hid (show IntRow wr w1.heap.size (.slice (some ⟨g, 0, none⟩) (levels.length + 1) pcap) ll by have := HP.out; unfold IntRow at this ⊢; rw [hlle] at this ⊢; exact this)
        have HBR := Lib.hid (HB1.out.below HB.out (by omega))
        have hpn2 : levels.length + 1 ≤ pcap := by omega
        clear hpr hW3 hL3 hnil
        by_cases hn : nc = 0
        · subst hn
          by_cases ht : tx = s
          · have et : ((⟨tx.toArray⟩ : ByteArray).toList == (⟨s.toArray⟩ : ByteArray).toList) = true := seq_t (by rw [ht])
            have et2 : (tx == s) = true := by rw [beq_iff_eq]; exact ht
            have HOK2 := Lib.hid (show par2 s = (⟨encI word, ll, true, false⟩, true) by rw [HPO2.out, ht]; simp)
            clear ht
            go_wp2_with (go_at_call 19; refine (print2_any ⟨encI word, ll, true, false⟩ (.slice (some ⟨g, 0, none⟩) (levels.length + 1) pcap) (by show (encI word).length ≤ _; omega) (by show ll.length ≤ _; omega) _ (Ints.of_owns HPV.out)).mono ?_; unfold PrintPost; rw [← HPat2.out, HPR.out]; rintro e w7 ⟨rfl, hb7⟩; have BQ7 := Lib.hid (HBQ.out.below hb7 HBQ.out.lt); obtain ⟨x0, x1, x2, x3⟩ := BQ7.out.four; rw [hlle] at x1; have BR := Lib.hid (HBR.out.below hb7 HBR.out.lt); obtain ⟨y0, y1, y2, y3⟩ := BR.out.four; have f0 := BR.out.frozen 0; have f1 := BR.out.frozen 1; have f2 := BR.out.frozen 2; have f3 := BR.out.frozen 3; have HF := Lib.hid (HBW.out.trans ((HB.out.trans (hb7.mono hrs)).mono (by omega))); have S7 := Lib.hid (row_turn HPV.out (Turn.ofBelow (F := []) hb7 (Nat.le_refl _)) (fun _ _ => by simp)))
            obtain ⟨c0, c1, c2, c3⟩ := (BR.out.store4 (.string ⟨(encI word).toArray⟩) (.slice (some ⟨g, 0, none⟩) (levels.length + 1) pcap) (.bool true) (.bool false)).four
            have S8 := row_turn S7.out (turn_store4 w7 w.heap.size (.string ⟨(encI word).toArray⟩) (.slice (some ⟨g, 0, none⟩) (levels.length + 1) pcap) (.bool true) (.bool false)) (fun g hg hm => by have := row_base S7.out g hg; simp at hm; omega)
            have hp := par2Post (pv := .slice (some ⟨g, 0, none⟩) (levels.length + 1) pcap) HOK2.out (below_store4 HF.out (Nat.le_refl _) (.string ⟨(encI word).toArray⟩) (.slice (some ⟨g, 0, none⟩) (levels.length + 1) pcap) (.bool true) (.bool false)) (IntRow.weak S8 (by omega))
            refine bodyPost_ret (v := .tuple #[patV ⟨encI word, ll, true, false⟩ (.slice (some ⟨g, 0, none⟩) (levels.length + 1) pcap), .bool true]) (by simp [results, Tryd.results22, go_sem, patV, c0, c1, c2, c3]) rfl hp
          · have et : ((⟨tx.toArray⟩ : ByteArray).toList == (⟨s.toArray⟩ : ByteArray).toList) = false := seq_f (fun e => ht (by have := congrArg (fun b : ByteArray => b.data.toList) e; exact this))
            have et2 : (tx == s) = false := by rw [beq_eq_false_iff_ne]; exact ht
            have HOK2 := Lib.hid (show par2 s = (⟨encI word, ll, true, false⟩, false) by rw [HPO2.out, decide_eq_false (fun e => ht (by injection e))])
            clear ht
            go_wp2_with (go_at_call 19; refine (print2_any ⟨encI word, ll, true, false⟩ (.slice (some ⟨g, 0, none⟩) (levels.length + 1) pcap) (by show (encI word).length ≤ _; omega) (by show ll.length ≤ _; omega) _ (Ints.of_owns HPV.out)).mono ?_; unfold PrintPost; rw [← HPat2.out, HPR.out]; rintro e w7 ⟨rfl, hb7⟩; have BQ7 := Lib.hid (HBQ.out.below hb7 HBQ.out.lt); obtain ⟨x0, x1, x2, x3⟩ := BQ7.out.four; rw [hlle] at x1; have BR := Lib.hid (HBR.out.below hb7 HBR.out.lt); obtain ⟨y0, y1, y2, y3⟩ := BR.out.four; have f0 := BR.out.frozen 0; have f1 := BR.out.frozen 1; have f2 := BR.out.frozen 2; have f3 := BR.out.frozen 3; have HF := Lib.hid (HBW.out.trans ((HB.out.trans (hb7.mono hrs)).mono (by omega))); have S7 := Lib.hid (row_turn HPV.out (Turn.ofBelow (F := []) hb7 (Nat.le_refl _)) (fun _ _ => by simp)))
            obtain ⟨c0, c1, c2, c3⟩ := (BR.out.store4 (.string ⟨(encI word).toArray⟩) (.slice (some ⟨g, 0, none⟩) (levels.length + 1) pcap) (.bool true) (.bool false)).four
            have S8 := row_turn S7.out (turn_store4 w7 w.heap.size (.string ⟨(encI word).toArray⟩) (.slice (some ⟨g, 0, none⟩) (levels.length + 1) pcap) (.bool true) (.bool false)) (fun g hg hm => by have := row_base S7.out g hg; simp at hm; omega)
            have hp := par2Post (pv := .slice (some ⟨g, 0, none⟩) (levels.length + 1) pcap) HOK2.out (below_store4 HF.out (Nat.le_refl _) (.string ⟨(encI word).toArray⟩) (.slice (some ⟨g, 0, none⟩) (levels.length + 1) pcap) (.bool true) (.bool false)) (IntRow.weak S8 (by omega))
            refine bodyPost_ret (v := .tuple #[patV ⟨encI word, ll, true, false⟩ (.slice (some ⟨g, 0, none⟩) (levels.length + 1) pcap), .bool false]) (by simp [results, Tryd.results22, go_sem, patV, c0, c1, c2, c3]) rfl hp
        · have en0 : (((nc : Nat) : Int) == 0) = false := by rw [beq_eq_false_iff_ne]; omega
          have en1 : (nc = 0) = False := by simp [hn]
          have HOK2 := Lib.hid (show par2 s = (⟨encI word, ll, true, false⟩, false) by rw [HPO2.out, decide_eq_false (fun e => hn (by injection e))])
          go_wp2_with (go_at_call 19; refine (print2_any ⟨encI word, ll, true, false⟩ (.slice (some ⟨g, 0, none⟩) (levels.length + 1) pcap) (by show (encI word).length ≤ _; omega) (by show ll.length ≤ _; omega) _ (Ints.of_owns HPV.out)).mono ?_; unfold PrintPost; rw [← HPat2.out, HPR.out]; rintro e w7 ⟨rfl, hb7⟩; have BQ7 := Lib.hid (HBQ.out.below hb7 HBQ.out.lt); obtain ⟨x0, x1, x2, x3⟩ := BQ7.out.four; rw [hlle] at x1; have BR := Lib.hid (HBR.out.below hb7 HBR.out.lt); obtain ⟨y0, y1, y2, y3⟩ := BR.out.four; have f0 := BR.out.frozen 0; have f1 := BR.out.frozen 1; have f2 := BR.out.frozen 2; have f3 := BR.out.frozen 3; have HF := Lib.hid (HBW.out.trans ((HB.out.trans (hb7.mono hrs)).mono (by omega))); have S7 := Lib.hid (row_turn HPV.out (Turn.ofBelow (F := []) hb7 (Nat.le_refl _)) (fun _ _ => by simp)))
          obtain ⟨c0, c1, c2, c3⟩ := (BR.out.store4 (.string ⟨(encI word).toArray⟩) (.slice (some ⟨g, 0, none⟩) (levels.length + 1) pcap) (.bool true) (.bool false)).four
          have S8 := row_turn S7.out (turn_store4 w7 w.heap.size (.string ⟨(encI word).toArray⟩) (.slice (some ⟨g, 0, none⟩) (levels.length + 1) pcap) (.bool true) (.bool false)) (fun g hg hm => by have := row_base S7.out g hg; simp at hm; omega)
          have hp := par2Post (pv := .slice (some ⟨g, 0, none⟩) (levels.length + 1) pcap) HOK2.out (below_store4 HF.out (Nat.le_refl _) (.string ⟨(encI word).toArray⟩) (.slice (some ⟨g, 0, none⟩) (levels.length + 1) pcap) (.bool true) (.bool false)) (IntRow.weak S8 (by omega))
          refine bodyPost_ret (v := .tuple #[patV ⟨encI word, ll, true, false⟩ (.slice (some ⟨g, 0, none⟩) (levels.length + 1) pcap), .bool false]) (by simp [results, Tryd.results22, go_sem, patV, c0, c1, c2, c3]) rfl hp
set_option maxRecDepth 100000 in
set_option maxHeartbeats 16000000 in
theorem parse2_any (s : List UInt8) (hs : s.length ≤ 1000000) (w : World) :
    Calls Tryd.prog 22 #[.string ⟨s.toArray⟩] w (Par2Post s w) := by
  obtain ⟨i0, hi, hz0, hz1, hz2⟩ := info_parts int_info
  cases hb : (U.bad s).isEmpty with
  | false =>
    have HP := Lib.hid (par2_bad hb)
    have HB := Lib.hid hb
    clear hb hi hz0 hz1 hz2
    go_enter Tryd.func22, Tryd.ntmps22
    go_wp2_with (first
      | (go_at_call 38; refine (pts_bad HB.out (by omega) _).mono ?_; rintro e w1 ⟨rfl, hb1⟩; have B1 := (Blk.new w 33 #[.string ⟨#[]⟩, .slice none 0 0, .bool false, .bool false]).below hb1 (by simp); obtain ⟨b0, b1, b2, b3⟩ := B1.four; have f0 := B1.frozen 0; have f1 := B1.frozen 1; have f2 := B1.frozen 2; have f3 := B1.frozen 3))
    obtain ⟨c0, c1, c2, c3⟩ := (B1.store4 (.string ⟨#[]⟩) (.slice none 0 0) (.bool false) (.bool false)).four
    refine bodyPost_ret (v := .tuple #[zeroPV, .bool false]) (by simp [results, Tryd.results22, go_sem, zeroPV, c0, c1, c2, c3]) rfl (par2Post (pv := .slice none 0 0) HP.out (below_store4 (((Below.refl _ w).alloc (Nat.le_refl _) _).trans (hb1.mono (by simp))) (Nat.le_refl _) _ _ _ _) (IntRow.nil _ _))
  | true =>
    obtain ⟨L, hL⟩ : ∃ L, ptsI s = L := ⟨_, rfl⟩
    have hlen : L.length ≤ s.length := by rw [← hL]; exact pts_len0 ⟨s.toArray⟩
    have HPt := Lib.hid (fun w => pts_ok hb (by omega) w)
    rw [hL] at HPt
    have HPo := Lib.hid (par2_ok hb)
    have HLK := Lib.hid (okI_pts s)
    rw [hL] at HPo HLK
    clear hb hL
    by_cases hL0 : L.length = 0
    · have d0 : decide (0 < L.length) = false := by simp [hL0]
      go_enter Tryd.func22, Tryd.ntmps22
      go_wp2_with (first
        | (go_at_call 38; refine (HPt.out _).mono ?_; rintro e w1 ⟨ao, cap, rfl, hb1, hrow⟩; have hbW := ((Below.refl w.heap.size w).alloc (Nat.le_refl _) (.cells #[.string ⟨#[]⟩, .slice none 0 0, .bool false, .bool false] 33)).trans (hb1.mono (by simp)); have hw1 := hb1.size; simp at hw1; have B1 := (Blk.new w 33 #[.string ⟨#[]⟩, .slice none 0 0, .bool false, .bool false]).below hb1 (by simp)))
      obtain ⟨V, hV⟩ : ∃ V, (w1.alloc (.cells #[.int .i64 0] 3)).alloc (.cells #[.string ⟨#[]⟩, .slice (some ⟨w1.heap.size, 0, none⟩) 1 1, .bool false, .bool false] 33) = V := ⟨_, rfl⟩
      simp only [hV]
      obtain ⟨M, hMd⟩ : ∃ M, L = M := ⟨_, rfl⟩
      have hM : stripE (stripB L) = M ∧ hasB L = false ∧ hasE (stripB L) = false := by
        rw [← hMd, List.eq_nil_of_length_eq_zero hL0]
        exact ⟨rfl, rfl, rfl⟩
      have hMok : okI M = true := by rw [← hMd]; exact HLK.out
      have hM0 : M.length = 0 := by rw [← hMd]; exact hL0
      have HM := Lib.hid (show stripE (stripB L) = M ∧ hasB L = false ∧ hasE (stripB L) = false from hM)
      have HPat := Lib.hid (show patOf L = ⟨encI (parseGo 0 M).1, (parseGo 0 M).2, false, false⟩ by unfold patOf; rw [HM.out.1, HM.out.2.1, HM.out.2.2])
      have HOKM := Lib.hid (show okI M = true from hMok)
      have hMl : M.length ≤ s.length := by have := strip_len L; rw [HM.out.1] at this; omega
      have HVB := Lib.hid (show Below w1.heap.size w1 V by rw [← hV]; exact ((Below.refl _ w1).alloc (Nat.le_refl _) _).alloc (by simp) _)
      have HVQ := Lib.hid (show Blk V (w1.heap.size + 1) 33 #[.string ⟨#[]⟩, .slice (some ⟨w1.heap.size, 0, none⟩) 1 1, .bool false, .bool false] by rw [← hV]; have := Blk.new (w1.alloc (.cells #[.int .i64 0] 3)) 33 #[.string ⟨#[]⟩, .slice (some ⟨w1.heap.size, 0, none⟩) 1 1, .bool false, .bool false]; rw [show (w1.alloc (.cells #[.int .i64 0] 3)).heap.size = w1.heap.size + 1 from by simp] at this; exact this)
      have HVR := Lib.hid (show IntRow V w1.heap.size (.slice (some ⟨w1.heap.size, 0, none⟩) 1 1) ([] ++ [(0 : Int)]) by rw [← hV]; exact blk_row (out := [0]) (Blk.new w1 3 #[.int .i64 0] |>.alloc _) (Nat.le_refl _) (by decide))
      have HB1 := Lib.hid B1
      have HBW := Lib.hid hbW
      have hVs : V.heap.size = w1.heap.size + 2 := by rw [← hV]; show ((w1.alloc (.cells #[.int .i64 0] 3)).alloc (.cells #[.string ⟨#[]⟩, .slice (some ⟨w1.heap.size, 0, none⟩) 1 1, .bool false, .bool false] 33)).heap.size = _; simp
      clear hM hV B1 hbW hMok
      obtain ⟨q, hq⟩ : ∃ q, w1.heap.size + 1 = q := ⟨_, rfl⟩
      rw [hq] at HVQ
      simp only [hq]
      have hwq : w1.heap.size < q := by omega
      have hqV : q < V.heap.size := by omega
      go_loopw [8] (fun i wr => ∃ (k : Nat) (lv : Int) (word levels : List Int) (pv : Value), k ≤ M.length ∧ i = .int .i64 (k : Int) ∧ Hid (IntRow wr w1.heap.size pv (levels ++ [lv])) ∧ Hid (pv.ownBlock ≠ some q) ∧ Hid (Blk wr q 33 #[.string ⟨(encI word).toArray⟩, pv, .bool false, .bool false]) ∧ Hid (Below w1.heap.size w1 wr) ∧ Hid (word ++ (parseGo lv (M.drop k)).1 = (parseGo 0 M).1) ∧ Hid (levels ++ (parseGo lv (M.drop k)).2 = (parseGo 0 M).2) ∧ word.length ≤ k ∧ levels.length ≤ k) (fun i _ => M.length - (intOf i).toNat)
      case atStart => exact ⟨0, 0, [], [], (.slice (some ⟨w1.heap.size, 0, none⟩) 1 1), Nat.zero_le _, rfl, HVR, Lib.hid (by simp [Value.ownBlock]; omega), HVQ, HVB, Lib.hid rfl, Lib.hid rfl, Nat.zero_le _, Nat.zero_le _⟩
      case round =>
        obtain ⟨k, lv, word, levels, pv, hk, rfl, HP, HNE, HBQ, HB, HW2, HL2, hwl, hll⟩ := hrel
        have hrs := HB.out.size
        have hqlt : q < wr.heap.size := HBQ.out.lt
        obtain ⟨q0, q1, q2, q3⟩ := HBQ.out.four
        have g0 := HBQ.out.frozen 0
        have g1 := HBQ.out.frozen 1
        obtain ⟨g, pcap, rfl, hpn, hpm, hglt, _⟩ := row_cell HP.out (by simp)
        obtain ⟨ll, hll'⟩ : ∃ ll, levels ++ [lv] = ll := ⟨_, rfl⟩
        have hlle : ll.length = levels.length + 1 := by rw [← hll']; simp
        rw [hll'] at HP HNE HBQ hpn q1
        have HLL := Lib.hid hll'
        clear hll'
        by_cases hlt : k < M.length
        · exact absurd hlt (by omega)
        · have hke : k = M.length := by omega
          have hnil : M.drop k = [] := by rw [hke]; exact List.drop_length
          have hW3 : word = (parseGo 0 M).1 := by have := HW2.out; rw [hnil] at this; simpa [parseGo] using this
          have hL3 : ll = (parseGo 0 M).2 := by have := HL2.out; rw [hnil] at this; rw [← HLL.out]; simpa [parseGo] using this
          have HPat2 := Lib.hid (show patOf L = ⟨encI word, ll, false, false⟩ by rw [HPat.out, hW3, hL3])
          have hel := encI_le word
          have d7 : decide (k < M.length) = false := by simp [hlt]
          obtain ⟨nc, tx, hpr⟩ : ∃ nc tx, printP (patOf L) = (nc, tx) := ⟨_, _, rfl⟩
          have HPR := Lib.hid hpr
          have HPO2 := Lib.hid (show par2 s = (⟨encI word, ll, false, false⟩, decide ((nc, tx) = (0, s))) by rw [HPo.out, hpr, HPat2.out])
          have HPV := Lib.hid (show IntRow wr w1.heap.size (.slice (some ⟨g, 0, none⟩) (levels.length + 1) pcap) ll by have := HP.out; unfold IntRow at this ⊢; rw [hlle] at this ⊢; exact this)
          have HBR := Lib.hid (HB1.out.below HB.out (by omega))
          have hpn2 : levels.length + 1 ≤ pcap := by omega
          clear hpr hW3 hL3 hnil
          by_cases hn : nc = 0
          · subst hn
            by_cases ht : tx = s
            · have et : ((⟨tx.toArray⟩ : ByteArray).toList == (⟨s.toArray⟩ : ByteArray).toList) = true := seq_t (by rw [ht])
              have et2 : (tx == s) = true := by rw [beq_iff_eq]; exact ht
              have HOK2 := Lib.hid (show par2 s = (⟨encI word, ll, false, false⟩, true) by rw [HPO2.out, ht]; simp)
              clear ht
              go_wp2_with (go_at_call 19; refine (print2_any ⟨encI word, ll, false, false⟩ (.slice (some ⟨g, 0, none⟩) (levels.length + 1) pcap) (by show (encI word).length ≤ _; omega) (by show ll.length ≤ _; omega) _ (Ints.of_owns HPV.out)).mono ?_; unfold PrintPost; rw [← HPat2.out, HPR.out]; rintro e w7 ⟨rfl, hb7⟩; have BQ7 := Lib.hid (HBQ.out.below hb7 HBQ.out.lt); obtain ⟨x0, x1, x2, x3⟩ := BQ7.out.four; rw [hlle] at x1; have BR := Lib.hid (HBR.out.below hb7 HBR.out.lt); obtain ⟨y0, y1, y2, y3⟩ := BR.out.four; have f0 := BR.out.frozen 0; have f1 := BR.out.frozen 1; have f2 := BR.out.frozen 2; have f3 := BR.out.frozen 3; have HF := Lib.hid (HBW.out.trans ((HB.out.trans (hb7.mono hrs)).mono (by omega))); have S7 := Lib.hid (row_turn HPV.out (Turn.ofBelow (F := []) hb7 (Nat.le_refl _)) (fun _ _ => by simp)))
              obtain ⟨c0, c1, c2, c3⟩ := (BR.out.store4 (.string ⟨(encI word).toArray⟩) (.slice (some ⟨g, 0, none⟩) (levels.length + 1) pcap) (.bool false) (.bool false)).four
              have S8 := row_turn S7.out (turn_store4 w7 w.heap.size (.string ⟨(encI word).toArray⟩) (.slice (some ⟨g, 0, none⟩) (levels.length + 1) pcap) (.bool false) (.bool false)) (fun g hg hm => by have := row_base S7.out g hg; simp at hm; omega)
              have hp := par2Post (pv := .slice (some ⟨g, 0, none⟩) (levels.length + 1) pcap) HOK2.out (below_store4 HF.out (Nat.le_refl _) (.string ⟨(encI word).toArray⟩) (.slice (some ⟨g, 0, none⟩) (levels.length + 1) pcap) (.bool false) (.bool false)) (IntRow.weak S8 (by omega))
              refine bodyPost_ret (v := .tuple #[patV ⟨encI word, ll, false, false⟩ (.slice (some ⟨g, 0, none⟩) (levels.length + 1) pcap), .bool true]) (by simp [results, Tryd.results22, go_sem, patV, c0, c1, c2, c3]) rfl hp
            · have et : ((⟨tx.toArray⟩ : ByteArray).toList == (⟨s.toArray⟩ : ByteArray).toList) = false := seq_f (fun e => ht (by have := congrArg (fun b : ByteArray => b.data.toList) e; exact this))
              have et2 : (tx == s) = false := by rw [beq_eq_false_iff_ne]; exact ht
              have HOK2 := Lib.hid (show par2 s = (⟨encI word, ll, false, false⟩, false) by rw [HPO2.out, decide_eq_false (fun e => ht (by injection e))])
              clear ht
              go_wp2_with (go_at_call 19; refine (print2_any ⟨encI word, ll, false, false⟩ (.slice (some ⟨g, 0, none⟩) (levels.length + 1) pcap) (by show (encI word).length ≤ _; omega) (by show ll.length ≤ _; omega) _ (Ints.of_owns HPV.out)).mono ?_; unfold PrintPost; rw [← HPat2.out, HPR.out]; rintro e w7 ⟨rfl, hb7⟩; have BQ7 := Lib.hid (HBQ.out.below hb7 HBQ.out.lt); obtain ⟨x0, x1, x2, x3⟩ := BQ7.out.four; rw [hlle] at x1; have BR := Lib.hid (HBR.out.below hb7 HBR.out.lt); obtain ⟨y0, y1, y2, y3⟩ := BR.out.four; have f0 := BR.out.frozen 0; have f1 := BR.out.frozen 1; have f2 := BR.out.frozen 2; have f3 := BR.out.frozen 3; have HF := Lib.hid (HBW.out.trans ((HB.out.trans (hb7.mono hrs)).mono (by omega))); have S7 := Lib.hid (row_turn HPV.out (Turn.ofBelow (F := []) hb7 (Nat.le_refl _)) (fun _ _ => by simp)))
              obtain ⟨c0, c1, c2, c3⟩ := (BR.out.store4 (.string ⟨(encI word).toArray⟩) (.slice (some ⟨g, 0, none⟩) (levels.length + 1) pcap) (.bool false) (.bool false)).four
              have S8 := row_turn S7.out (turn_store4 w7 w.heap.size (.string ⟨(encI word).toArray⟩) (.slice (some ⟨g, 0, none⟩) (levels.length + 1) pcap) (.bool false) (.bool false)) (fun g hg hm => by have := row_base S7.out g hg; simp at hm; omega)
              have hp := par2Post (pv := .slice (some ⟨g, 0, none⟩) (levels.length + 1) pcap) HOK2.out (below_store4 HF.out (Nat.le_refl _) (.string ⟨(encI word).toArray⟩) (.slice (some ⟨g, 0, none⟩) (levels.length + 1) pcap) (.bool false) (.bool false)) (IntRow.weak S8 (by omega))
              refine bodyPost_ret (v := .tuple #[patV ⟨encI word, ll, false, false⟩ (.slice (some ⟨g, 0, none⟩) (levels.length + 1) pcap), .bool false]) (by simp [results, Tryd.results22, go_sem, patV, c0, c1, c2, c3]) rfl hp
          · have en0 : (((nc : Nat) : Int) == 0) = false := by rw [beq_eq_false_iff_ne]; omega
            have en1 : (nc = 0) = False := by simp [hn]
            have HOK2 := Lib.hid (show par2 s = (⟨encI word, ll, false, false⟩, false) by rw [HPO2.out, decide_eq_false (fun e => hn (by injection e))])
            go_wp2_with (go_at_call 19; refine (print2_any ⟨encI word, ll, false, false⟩ (.slice (some ⟨g, 0, none⟩) (levels.length + 1) pcap) (by show (encI word).length ≤ _; omega) (by show ll.length ≤ _; omega) _ (Ints.of_owns HPV.out)).mono ?_; unfold PrintPost; rw [← HPat2.out, HPR.out]; rintro e w7 ⟨rfl, hb7⟩; have BQ7 := Lib.hid (HBQ.out.below hb7 HBQ.out.lt); obtain ⟨x0, x1, x2, x3⟩ := BQ7.out.four; rw [hlle] at x1; have BR := Lib.hid (HBR.out.below hb7 HBR.out.lt); obtain ⟨y0, y1, y2, y3⟩ := BR.out.four; have f0 := BR.out.frozen 0; have f1 := BR.out.frozen 1; have f2 := BR.out.frozen 2; have f3 := BR.out.frozen 3; have HF := Lib.hid (HBW.out.trans ((HB.out.trans (hb7.mono hrs)).mono (by omega))); have S7 := Lib.hid (row_turn HPV.out (Turn.ofBelow (F := []) hb7 (Nat.le_refl _)) (fun _ _ => by simp)))
            obtain ⟨c0, c1, c2, c3⟩ := (BR.out.store4 (.string ⟨(encI word).toArray⟩) (.slice (some ⟨g, 0, none⟩) (levels.length + 1) pcap) (.bool false) (.bool false)).four
            have S8 := row_turn S7.out (turn_store4 w7 w.heap.size (.string ⟨(encI word).toArray⟩) (.slice (some ⟨g, 0, none⟩) (levels.length + 1) pcap) (.bool false) (.bool false)) (fun g hg hm => by have := row_base S7.out g hg; simp at hm; omega)
            have hp := par2Post (pv := .slice (some ⟨g, 0, none⟩) (levels.length + 1) pcap) HOK2.out (below_store4 HF.out (Nat.le_refl _) (.string ⟨(encI word).toArray⟩) (.slice (some ⟨g, 0, none⟩) (levels.length + 1) pcap) (.bool false) (.bool false)) (IntRow.weak S8 (by omega))
            refine bodyPost_ret (v := .tuple #[patV ⟨encI word, ll, false, false⟩ (.slice (some ⟨g, 0, none⟩) (levels.length + 1) pcap), .bool false]) (by simp [results, Tryd.results22, go_sem, patV, c0, c1, c2, c3]) rfl hp
    · have hpos : 0 < L.length := by omega
      have d0 : decide (0 < L.length) = true := by simp [hpos]
      obtain ⟨x, hx⟩ : ∃ x, L.getD 0 0 = x := ⟨_, rfl⟩
      have HX := Lib.hid hx
      obtain ⟨y, hy⟩ : ∃ y, L.getD (L.length - 1) 0 = y := ⟨_, rfl⟩
      have HY := Lib.hid hy
      clear hx hy
      have z1 : (1 : Int) ≤ (L.length : Int) := by omega
      have z3 : 1 ≤ L.length := hpos
      by_cases hx46 : x = 46
      · have e0 : (x == 46) = true := by simp [hx46]
        by_cases h1 : L.length = 1
        · have d1 : decide (1 < L.length) = false := by simp; omega
          exact parse2_v1 s hs w i0 hi hz0 hz1 hz2 L hlen HPt HPo HLK hL0 x y HX HY hx46 h1
        · have d1 : decide (1 < L.length) = true := by simp; omega
          by_cases hy46 : y = 46
          · have e1 : (y == 46) = true := by simp [hy46]
            exact parse2_v2 s hs w i0 hi hz0 hz1 hz2 L hlen HPt HPo HLK hL0 x y HX HY hx46 h1 hy46
          · have e1 : (y == 46) = false := by simp [hy46]
            exact parse2_v3 s hs w i0 hi hz0 hz1 hz2 L hlen HPt HPo HLK hL0 x y HX HY hx46 h1 hy46
      · have e0 : (x == 46) = false := by simp [hx46]
        by_cases hy46 : y = 46
        · have e1 : (y == 46) = true := by simp [hy46]
          exact parse2_v4 s hs w i0 hi hz0 hz1 hz2 L hlen HPt HPo HLK hL0 x y HX HY hx46 hy46
        · have e1 : (y == 46) = false := by simp [hy46]
          exact parse2_v5 s hs w i0 hi hz0 hz1 hz2 L hlen HPt HPo HLK hL0 x y HX HY hx46 hy46
end Go.Proofs.YtdcdlmigagjbiaaDoor
