/- The law's parse walked: one way. -/
import Derived.Test.YtdcdlmigagjbiaaDoorHs2
import Derived.Deep.RegionHeld3
import Derived.Deep.QuietTactic
import Derived.IntWalk
namespace Go.Proofs.YtdcdlmigagjbiaaDoor
open Go.RowKit Go.Maps
set_option maxRecDepth 100000 in
set_option maxHeartbeats 16000000 in
theorem parse2_v3 (s : List UInt8) (hs : s.length ≤ 1000000) (w : World) (i0 : TypeInfo) (hi : Tryd.prog.info? 3 = some i0) (hz0 : i0.zero = some (.int .i64 0)) (hz1 : i0.size = 1) (hz2 : i0.bytes = 8) (L : List Int) (hlen : L.length ≤ s.length)
    (HPt : Hid (∀ w : World, Calls Tryd.prog 38 #[.string ⟨s.toArray⟩] w fun e w' => ∃ ao cap, e = .returned (.tuple #[.slice ao L.length cap, .int .i64 0]) ∧ Below w.heap.size w w' ∧ Hid (IntRow w' w.heap.size (.slice ao L.length cap) L)))
    (HPo : Hid (par2 s = (patOf L, decide (printP (patOf L) = (0, s))))) (HLK : Hid (okI L = true)) (hL0 : ¬ L.length = 0) (x y : Int) (HX : Hid (L.getD 0 0 = x)) (HY : Hid (L.getD (L.length - 1) 0 = y))
    (hx46 : x = 46) (h1 : ¬ L.length = 1) (hy46 : ¬ y = 46) :
    Calls Tryd.prog 22 #[.string ⟨s.toArray⟩] w (Par2Post s w) := by
  have hpos : 0 < L.length := by omega
  have d0 : decide (0 < L.length) = true := by simp [hpos]
  have z1 : (1 : Int) ≤ (L.length : Int) := by omega
  have z3 : 1 ≤ L.length := hpos
  have e0 : (x == 46) = true := by simp [hx46]
  have d1 : decide (1 < L.length) = true := by simp; omega
  have e1 : (y == 46) = false := by simp [hy46]
  go_enter Tryd.func22, Tryd.ntmps22
  go_wp2_with (first
    | (go_at_call 38; refine (HPt.out _).mono ?_; rintro e w1 ⟨ao, cap, rfl, hb1, hrow⟩; have hbW := ((Below.refl w.heap.size w).alloc (Nat.le_refl _) (.cells #[.string ⟨#[]⟩, .slice none 0 0, .bool false, .bool false] 33)).trans (hb1.mono (by simp)); have hw1 := hb1.size; simp at hw1; have B1 := (Blk.new w 33 #[.string ⟨#[]⟩, .slice none 0 0, .bool false, .bool false]).below hb1 (by simp); obtain ⟨b, off, rfl, hblt, hcl, hlc, hcm⟩ := ints_pos (Ints.of_owns hrow.out) hpos; have hcA : ∀ (o o2 : Obj) j, j < L.length → ((w1.alloc o).alloc o2).cell? ⟨b, off + j, none⟩ = some (.int .i64 (L.getD j 0)) := fun o o2 j hj => (World.cell?_of_block (a := ⟨b, off + j, none⟩) ((Below.heap_alloc (w1.alloc o) o2 b (by simp; omega)).trans (Below.heap_alloc w1 o b hblt))).trans (hcl j hj); have HCL := Lib.hid hcA; have hc0 := hcA (.cells #[.int .i64 0] 3) (.cells #[.string ⟨#[]⟩, .slice (some ⟨w1.heap.size, 0, none⟩) 1 1, .bool false, .bool false] 33) 0 hpos; rw [HX.out, Nat.add_zero] at hc0; have hcY := hcA (.cells #[.int .i64 0] 3) (.cells #[.string ⟨#[]⟩, .slice (some ⟨w1.heap.size, 0, none⟩) 1 1, .bool true, .bool false] 33) (L.length - 1) (by omega); rw [HY.out] at hcY; clear hcl hcA; have z2 : (L.length : Int) ≤ (cap : Int) := (by omega); have HQ := Lib.hid (Blk.new (w1.alloc (.cells #[.int .i64 0] 3)) 33 #[.string ⟨#[]⟩, .slice (some ⟨w1.heap.size, 0, none⟩) 1 1, .bool false, .bool false]); have HQ2 := Lib.hid (Blk.new (w1.alloc (.cells #[.int .i64 0] 3)) 33 #[.string ⟨#[]⟩, .slice (some ⟨w1.heap.size, 0, none⟩) 1 1, .bool true, .bool false]); have g2 := HQ.out.frozen 2; have g3 := HQ2.out.frozen 3; obtain ⟨q0, q1, q2, q3⟩ := HQ.out.four; obtain ⟨p0, p1, p2, p3⟩ := HQ2.out.four; rw [show (w1.alloc (.cells #[.int .i64 0] 3)).heap.size = w1.heap.size + 1 from by simp] at g2 g3 q0 q1 q2 q3 p0 p1 p2 p3; have hcY2 : ((w1.alloc (.cells #[.int .i64 0] 3)).alloc (.cells #[.string ⟨#[]⟩, .slice (some ⟨w1.heap.size, 0, none⟩) 1 1, .bool true, .bool false] 33)).cell? ⟨b, off + 1 + (L.length - 1 - 1), none⟩ = some (.int .i64 y) := (by rw [show off + 1 + (L.length - 1 - 1) = off + (L.length - 1) from by omega]; exact hcY)))
  apply region_one
  · go_region_law (fail)
    all_goals exact ⟨rfl, rfl⟩
  go_wp2_with fail
  obtain ⟨V, hV⟩ : ∃ V, ((w1.alloc (.cells #[.int .i64 0] 3)).alloc (.cells #[.string ⟨#[]⟩, .slice (some ⟨w1.heap.size, 0, none⟩) 1 1, .bool true, .bool false] 33)).drew = V := ⟨_, rfl⟩
  have HCV : ∀ j, j < L.length → V.cell? ⟨b, off + j, none⟩ = some (.int .i64 (L.getD j 0)) := by
    rw [← hV]
    exact HCL.out (.cells #[.int .i64 0] 3) (.cells #[.string ⟨#[]⟩, .slice (some ⟨w1.heap.size, 0, none⟩) 1 1, .bool true, .bool false] 33)
  simp only [hV]
  have HCL := Lib.hid HCV
  clear HCV
  obtain ⟨M, hMd, hMn⟩ : ∃ M, L.tail = M ∧ M.length = L.length - 1 := ⟨L.tail, rfl, by simp; try omega⟩
  have hM : stripE (stripB L) = M ∧ hasB L = true ∧ hasE (stripB L) = false := by
    rw [← hMd]
    exact strip_bf HX.out HY.out (by omega) hx46 hy46
  have hMok : okI M = true := by
    have h1 := HLK.out
    unfold okI at h1 ⊢
    rw [List.all_eq_true] at h1 ⊢
    intro x hx
    exact h1 x (strip_mem (l := L) (by rw [hM.1]; exact hx))
  have hMg : ∀ j, j < M.length → M.getD j 0 = L.getD (j + 1) 0 := fun j hj => by rw [← hMd] at hj ⊢; exact strip_get_t L j
  have HMG := Lib.hid hMg
  clear hMg hMd
  have HM := Lib.hid (show stripE (stripB L) = M ∧ hasB L = true ∧ hasE (stripB L) = false from hM)
  have HPat := Lib.hid (show patOf L = ⟨encI (parseGo 0 M).1, (parseGo 0 M).2, true, false⟩ by unfold patOf; rw [HM.out.1, HM.out.2.1, HM.out.2.2])
  have HOKM := Lib.hid (show okI M = true from hMok)
  have hMl : M.length ≤ s.length := by have := strip_len L; rw [HM.out.1] at this; omega
  have HVB := Lib.hid (show Below w1.heap.size w1 V by rw [← hV]; exact below_drew (((Below.refl _ w1).alloc (Nat.le_refl _) _).alloc (by simp) _))
  have HVQ := Lib.hid (show Blk V (w1.heap.size + 1) 33 #[.string ⟨#[]⟩, .slice (some ⟨w1.heap.size, 0, none⟩) 1 1, .bool true, .bool false] by rw [← hV]; have := Blk.new (w1.alloc (.cells #[.int .i64 0] 3)) 33 #[.string ⟨#[]⟩, .slice (some ⟨w1.heap.size, 0, none⟩) 1 1, .bool true, .bool false]; rw [show (w1.alloc (.cells #[.int .i64 0] 3)).heap.size = w1.heap.size + 1 from by simp] at this; exact this)
  have HVR := Lib.hid (show IntRow V w1.heap.size (.slice (some ⟨w1.heap.size, 0, none⟩) 1 1) ([] ++ [(0 : Int)]) by rw [← hV]; exact blk_row (out := [0]) (Blk.new w1 3 #[.int .i64 0] |>.alloc _) (Nat.le_refl _) (by decide))
  have HB1 := Lib.hid B1
  have HBW := Lib.hid hbW
  have hVs : V.heap.size = w1.heap.size + 2 := by rw [← hV]; show ((w1.alloc (.cells #[.int .i64 0] 3)).alloc (.cells #[.string ⟨#[]⟩, .slice (some ⟨w1.heap.size, 0, none⟩) 1 1, .bool true, .bool false] 33)).heap.size = _; simp
  clear hM hV B1 hbW hMok
  obtain ⟨q, hq⟩ : ∃ q, w1.heap.size + 1 = q := ⟨_, rfl⟩
  rw [hq] at HVQ
  simp only [hq]
  have hwq : w1.heap.size < q := by omega
  have hqV : q < V.heap.size := by omega
  go_loopw [8] (fun i wr => ∃ (k : Nat) (lv : Int) (word levels : List Int) (pv : Value), k ≤ M.length ∧ i = .int .i64 (k : Int) ∧ Hid (IntRow wr w1.heap.size pv (levels ++ [lv])) ∧ Hid (pv.ownBlock ≠ some q) ∧ Hid (Blk wr q 33 #[.string ⟨(encI word).toArray⟩, pv, .bool true, .bool false]) ∧ Hid (Below w1.heap.size w1 wr) ∧ Hid (word ++ (parseGo lv (M.drop k)).1 = (parseGo 0 M).1) ∧ Hid (levels ++ (parseGo lv (M.drop k)).2 = (parseGo 0 M).2) ∧ word.length ≤ k ∧ levels.length ≤ k) (fun i _ => M.length - (intOf i).toNat)
  case atStart => exact ⟨0, 0, [], [], (.slice (some ⟨w1.heap.size, 0, none⟩) 1 1), Nat.zero_le _, rfl, HVR, Lib.hid (by simp [Value.ownBlock]; omega), HVQ, HVB, Lib.hid rfl, Lib.hid rfl, Nat.zero_le _, Nat.zero_le _⟩
  case round =>
    obtain ⟨k, lv, word, levels, pv, hk, rfl, HP, HNE, HBQ, HB, HW2, HL2, hwl, hll⟩ := hrel
    have hrs := HB.out.size
    have hqlt : q < wr.heap.size := HBQ.out.lt
    obtain ⟨q0, q1, q2, q3⟩ := HBQ.out.four
    have g0 := HBQ.out.frozen 0
    have g1 := HBQ.out.frozen 1
    obtain ⟨g, pcap, rfl, hpn, hpm, hglt, _⟩ := row_cell HP.out (by simp)
    obtain ⟨ll, hll'⟩ : ∃ ll, levels ++ [lv] = ll := ⟨_, rfl⟩
    have hlle : ll.length = levels.length + 1 := by rw [← hll']; simp
    rw [hll'] at HP HNE HBQ hpn q1
    have HLL := Lib.hid hll'
    clear hll'
    by_cases hlt : k < M.length
    · have hcell := (HB.out.cell (p := ⟨b, off + 1 + k, none⟩) hblt).trans ((HVB.out.cell (p := ⟨b, off + 1 + k, none⟩) hblt).symm.trans (show V.cell? ⟨b, off + 1 + k, none⟩ = some (.int .i64 (M.getD k 0)) by
        rw [HMG.out k hlt, show off + 1 + k = off + (k + 1) from by omega]
        exact HCL.out (k + 1) (by omega)))
      have hckk : 1 ≤ (cap - 1) - k ∧ (cap - 1) - k ≤ maxLen := ⟨by omega, Nat.le_trans (Nat.sub_le _ _) (by omega)⟩
      have HDR := Lib.hid (drop_at hlt)
      have H33 := Lib.hid (show isPtI (M.getD k 0) = true by have := HOKM.out; unfold okI at this; rw [List.getD_eq_getElem?_getD, List.getElem?_eq_getElem hlt]; exact List.all_eq_true.1 this _ (List.getElem_mem hlt))
      obtain ⟨c, hc⟩ : ∃ c, M.getD k 0 = c := ⟨_, rfl⟩
      rw [hc] at hcell HDR H33
      clear hc
      by_cases h48 : 48 ≤ c
      · have d48 : decide (48 ≤ c) = true := by simp [h48]
        by_cases h57 : c ≤ 57
        · have d57 : decide (c ≤ 57) = true := by simp [h57]
          have zlt : (levels.length : Int) < (levels.length : Int) + 1 := by omega
          have ziw : IntKind.i64.wrap (levels.length : Int) = (levels.length : Int) := IntWalk.i64_in _ (by unfold maxLen at hpm; omega)
          have hlast : wr.cell? ⟨g, levels.length, none⟩ = some (.int .i64 lv) := by
            rw [World.ownsRow.cellAt HP.out levels.length (by omega), ← HLL.out]; simp
          have hfr := World.ownsRow.frozenAt HP.out levels.length
          have hgq : q ≠ g := fun e => HNE.out (by rw [e]; rfl)
          have HGB := Lib.hid (row_base HP.out g rfl)
          go_wp2_with fail
          apply region_one
          · go_region_law (fail)
            all_goals exact ⟨rfl, rfl⟩
          go_wp2_with fail
          exact ⟨⟨k + 1, c - 48, word, levels, (.slice (some ⟨g, 0, none⟩) (levels ++ [c - 48]).length pcap), hlt, by go_num, Lib.hid (row_setlast HLL.out HP.out (c - 48)), HNE, Lib.hid (by have := HBQ.out.far (p := ⟨g, levels.length, none⟩) hgq (.int .i64 (c - 48)); rw [show (levels ++ [c - 48]).length = ll.length from by simp; omega]; exact this), Lib.hid (below_drew (HB.out.setCell (p := ⟨g, levels.length, none⟩) HGB.out _)), Lib.hid (by rw [← HW2.out, HDR.out, parseGo_dig (by omega) (by omega)]), Lib.hid (by rw [← HL2.out, HDR.out, parseGo_dig (by omega) (by omega)]), by omega, by omega⟩, by simp [intOf]; omega⟩
        · have d57 : decide (c ≤ 57) = false := by simp [h57]
          have HNL := Lib.hid (fun (r : List Int) (lv : Int) => parseGo_let (c := c) (lv := lv) (r := r) (by omega))
          have HMK1 := Lib.hid (fun (w : World) (h1 : b < w.heap.size) (h2 : w.cell? ⟨b, off + 1 + k, none⟩ = some (.int .i64 c)) => make_one (v := .slice (some ⟨b, off + 1 + k, none⟩) 1 ((cap - 1) - k)) H33.out rfl hckk h1 h2)
          have hencl : (encI word).length ≤ 4 * word.length := encI_le word
          have hadd := fun w => run_string_add_lists (P := Tryd.prog) w (encI word) (U.enc c.toNat) (by omega) (by rw [U.enc_length]; have := (U.esize_pos c.toNat).2; omega)
          go_wp2_with (first
            | (go_at_call 41; refine (HMK1.out _ (by omega) hcell).mono ?_; rintro e w6 ⟨rfl, hb6⟩; have hs6 := hb6.size; have HP6 := Lib.hid (show IntRow w6 w1.heap.size (.slice (some ⟨g, 0, none⟩) (levels.length + 1) pcap) ll by (have := row_turn HP.out (Turn.ofBelow (F := []) hb6 (Nat.le_refl _)) (fun _ _ => by simp); rw [hlle] at this; unfold IntRow; rw [hlle]; exact this)); have BQ6 := Lib.hid (HBQ.out.below hb6 HBQ.out.lt); obtain ⟨r0, r1, r2, r3⟩ := BQ6.out.four; rw [hlle] at r1; have k0 := BQ6.out.frozen 0; have k1 := BQ6.out.frozen 1; have HB6 := Lib.hid (HB.out.trans (hb6.mono hrs))))
          have HPN := Lib.hid (show w6.ownsRow w1.heap.size 3 1 (.slice (some ⟨g, 0, none⟩) (levels.length + 1) pcap) (levels.length + 1) (ll.map (Value.int .i64)) by have := HP6.out; unfold IntRow at this; rwa [hlle] at this)
          have BQA := Lib.hid (BQ6.out.alloc (.cells #[.int .i64 0] 3))
          obtain ⟨s0, s1, s2, s3⟩ := BQA.out.four
          rw [hlle] at s1
          have hgq : some q ≠ (Value.slice (some ⟨g, 0, none⟩) (levels.length + 1) pcap).ownBlock := fun e => HNE.out (by rw [e]; rfl)
          have hql6 : q < (w6.alloc (.cells #[.int .i64 0] 3)).heap.size := by simp; omega
          apply region_app (R := fun g2 cap2 w7 => w7.ownsRow w1.heap.size 3 1 (.slice (some ⟨g2, 0, none⟩) (levels.length + 1 + 1) cap2) (levels.length + 1 + 1) (ll.map (Value.int .i64) ++ [.int .i64 0]) ∧ (w6.alloc (.cells #[.int .i64 0] 3)).drew.grownBy w7 (Value.slice (some ⟨g, 0, none⟩) (levels.length + 1) pcap).ownBlock ∧ ((Value.slice (some ⟨g, 0, none⟩) (levels.length + 1) pcap).ownBlock = some g2 ∨ g2 = w6.heap.size + 1))
          · go_region_law (first
              | (refine step_append_lies _ (by rfl) _ _ _ (by rfl) w1.heap.size 3 i0 (.int .i64 0) 1 8 Tryd.underlying26 hi hz0 hz1 hz2 rfl (by omega) (.slice (some ⟨g, 0, none⟩) (levels.length + 1) pcap) (levels.length + 1) (ll.map (Value.int .i64)) (by rfl) (World.ownsRow.alloc HPN.out _)
                  ⟨w6.heap.size, 0, none⟩ 1 1 [.int .i64 0] (by rfl) (by rfl) (World.news_of_block (cs := #[.int .i64 0]) (t := 3) (fr := (0, 0)) (heap_alloc_new w6 _)) (by simp [Value.oneCell'])
                  (by omega) (by unfold maxLen; omega) (by omega) (by simp; omega) (w6.heap.size + 1) (by simp) ?_; intro g2 cap2 w7 hown hg hat hlt2; have BQ7 := Lib.hid (Blk.grown (w := (w6.alloc (.cells #[.int .i64 0] 3)).drew) (Blk.drew BQA.out) hg hgq); obtain ⟨v0, v1, v2, v3⟩ := BQ7.out.four; have j0 := BQ7.out.frozen 0; have j1 := BQ7.out.frozen 1; have HOW := Lib.hid hown; have HGR := Lib.hid hg; have HAT := Lib.hid hat; clear hown hg hat))
            all_goals exact ⟨g2, cap2, w7, rfl, rfl, HOW.out, HGR.out, HAT.out⟩
          intro g2 cap2 w7 hR
          have HOW := Lib.hid hR.1
          have HGR := Lib.hid hR.2.1
          have HAT := Lib.hid hR.2.2
          have BQ7 := Lib.hid (Blk.grown (w := (w6.alloc (.cells #[.int .i64 0] 3)).drew) (Blk.drew BQA.out) HGR.out hgq)
          clear hR
          obtain ⟨z1, z2, z3⟩ := row_zero (u := .string ⟨(encI word ++ U.enc c.toNat).toArray⟩) (u2 := .slice (some ⟨g2, 0, none⟩) (levels.length + 1 + 1) cap2) HOW.out HGR.out HAT.out HB6.out (by omega) (row_base HP.out g rfl) (by omega) (by omega) HNE.out
          have Z1 := Lib.hid z1
          have Z2 := Lib.hid z2
          have Z3 := Lib.hid (show IntRow ((w7.setCell ⟨q, 0, none⟩ (.string ⟨(encI word ++ U.enc c.toNat).toArray⟩)).setCell ⟨q, 1, none⟩ (.slice (some ⟨g2, 0, none⟩) (levels.length + 1 + 1) cap2)) w1.heap.size (.slice (some ⟨g2, 0, none⟩) (levels.length + 1 + 1) cap2) ((levels ++ [lv]) ++ [(0 : Int)]) by
            unfold IntRow
            rw [HLL.out, List.map_append, show (ll ++ [(0 : Int)]).length = levels.length + 1 + 1 from by simp; omega]
            exact z3)
          have Z4 := Lib.hid ((BQ7.out.set_ 0 (.string ⟨(encI word ++ U.enc c.toNat).toArray⟩)).set_ 1 (.slice (some ⟨g2, 0, none⟩) (levels.length + 1 + 1) cap2))
          clear z1 z2 z3
          go_wp2_with fail
          exact ⟨⟨k + 1, 0, word ++ [c], levels ++ [lv], (.slice (some ⟨g2, 0, none⟩) (levels.length + 1 + 1) cap2), hlt, by go_num, Z3, Z2, Lib.hid (by have := Z4.out; rw [encI_append, show encI [c] = U.enc c.toNat from by simp [encI, U.encs]]; simpa using this), Z1, Lib.hid (by rw [← HW2.out, HDR.out, HNL.out, List.append_assoc]; rfl), Lib.hid (by rw [← HL2.out, HDR.out, HNL.out, List.append_assoc]; rfl), by simp; omega, by simp; omega⟩, by simp [intOf]; omega⟩
      · have d48 : decide (48 ≤ c) = false := by simp [h48]
        have HNL := Lib.hid (fun (r : List Int) (lv : Int) => parseGo_let (c := c) (lv := lv) (r := r) (by omega))
        have HMK1 := Lib.hid (fun (w : World) (h1 : b < w.heap.size) (h2 : w.cell? ⟨b, off + 1 + k, none⟩ = some (.int .i64 c)) => make_one (v := .slice (some ⟨b, off + 1 + k, none⟩) 1 ((cap - 1) - k)) H33.out rfl hckk h1 h2)
        have hencl : (encI word).length ≤ 4 * word.length := encI_le word
        have hadd := fun w => run_string_add_lists (P := Tryd.prog) w (encI word) (U.enc c.toNat) (by omega) (by rw [U.enc_length]; have := (U.esize_pos c.toNat).2; omega)
        go_wp2_with (first
          | (go_at_call 41; refine (HMK1.out _ (by omega) hcell).mono ?_; rintro e w6 ⟨rfl, hb6⟩; have hs6 := hb6.size; have HP6 := Lib.hid (show IntRow w6 w1.heap.size (.slice (some ⟨g, 0, none⟩) (levels.length + 1) pcap) ll by (have := row_turn HP.out (Turn.ofBelow (F := []) hb6 (Nat.le_refl _)) (fun _ _ => by simp); rw [hlle] at this; unfold IntRow; rw [hlle]; exact this)); have BQ6 := Lib.hid (HBQ.out.below hb6 HBQ.out.lt); obtain ⟨r0, r1, r2, r3⟩ := BQ6.out.four; rw [hlle] at r1; have k0 := BQ6.out.frozen 0; have k1 := BQ6.out.frozen 1; have HB6 := Lib.hid (HB.out.trans (hb6.mono hrs))))
        have HPN := Lib.hid (show w6.ownsRow w1.heap.size 3 1 (.slice (some ⟨g, 0, none⟩) (levels.length + 1) pcap) (levels.length + 1) (ll.map (Value.int .i64)) by have := HP6.out; unfold IntRow at this; rwa [hlle] at this)
        have BQA := Lib.hid (BQ6.out.alloc (.cells #[.int .i64 0] 3))
        obtain ⟨s0, s1, s2, s3⟩ := BQA.out.four
        rw [hlle] at s1
        have hgq : some q ≠ (Value.slice (some ⟨g, 0, none⟩) (levels.length + 1) pcap).ownBlock := fun e => HNE.out (by rw [e]; rfl)
        have hql6 : q < (w6.alloc (.cells #[.int .i64 0] 3)).heap.size := by simp; omega
        apply region_app (R := fun g2 cap2 w7 => w7.ownsRow w1.heap.size 3 1 (.slice (some ⟨g2, 0, none⟩) (levels.length + 1 + 1) cap2) (levels.length + 1 + 1) (ll.map (Value.int .i64) ++ [.int .i64 0]) ∧ (w6.alloc (.cells #[.int .i64 0] 3)).drew.grownBy w7 (Value.slice (some ⟨g, 0, none⟩) (levels.length + 1) pcap).ownBlock ∧ ((Value.slice (some ⟨g, 0, none⟩) (levels.length + 1) pcap).ownBlock = some g2 ∨ g2 = w6.heap.size + 1))
        · go_region_law (first
            | (refine step_append_lies _ (by rfl) _ _ _ (by rfl) w1.heap.size 3 i0 (.int .i64 0) 1 8 Tryd.underlying26 hi hz0 hz1 hz2 rfl (by omega) (.slice (some ⟨g, 0, none⟩) (levels.length + 1) pcap) (levels.length + 1) (ll.map (Value.int .i64)) (by rfl) (World.ownsRow.alloc HPN.out _)
                ⟨w6.heap.size, 0, none⟩ 1 1 [.int .i64 0] (by rfl) (by rfl) (World.news_of_block (cs := #[.int .i64 0]) (t := 3) (fr := (0, 0)) (heap_alloc_new w6 _)) (by simp [Value.oneCell'])
                (by omega) (by unfold maxLen; omega) (by omega) (by simp; omega) (w6.heap.size + 1) (by simp) ?_; intro g2 cap2 w7 hown hg hat hlt2; have BQ7 := Lib.hid (Blk.grown (w := (w6.alloc (.cells #[.int .i64 0] 3)).drew) (Blk.drew BQA.out) hg hgq); obtain ⟨v0, v1, v2, v3⟩ := BQ7.out.four; have j0 := BQ7.out.frozen 0; have j1 := BQ7.out.frozen 1; have HOW := Lib.hid hown; have HGR := Lib.hid hg; have HAT := Lib.hid hat; clear hown hg hat))
          all_goals exact ⟨g2, cap2, w7, rfl, rfl, HOW.out, HGR.out, HAT.out⟩
        intro g2 cap2 w7 hR
        have HOW := Lib.hid hR.1
        have HGR := Lib.hid hR.2.1
        have HAT := Lib.hid hR.2.2
        have BQ7 := Lib.hid (Blk.grown (w := (w6.alloc (.cells #[.int .i64 0] 3)).drew) (Blk.drew BQA.out) HGR.out hgq)
        clear hR
        obtain ⟨z1, z2, z3⟩ := row_zero (u := .string ⟨(encI word ++ U.enc c.toNat).toArray⟩) (u2 := .slice (some ⟨g2, 0, none⟩) (levels.length + 1 + 1) cap2) HOW.out HGR.out HAT.out HB6.out (by omega) (row_base HP.out g rfl) (by omega) (by omega) HNE.out
        have Z1 := Lib.hid z1
        have Z2 := Lib.hid z2
        have Z3 := Lib.hid (show IntRow ((w7.setCell ⟨q, 0, none⟩ (.string ⟨(encI word ++ U.enc c.toNat).toArray⟩)).setCell ⟨q, 1, none⟩ (.slice (some ⟨g2, 0, none⟩) (levels.length + 1 + 1) cap2)) w1.heap.size (.slice (some ⟨g2, 0, none⟩) (levels.length + 1 + 1) cap2) ((levels ++ [lv]) ++ [(0 : Int)]) by
          unfold IntRow
          rw [HLL.out, List.map_append, show (ll ++ [(0 : Int)]).length = levels.length + 1 + 1 from by simp; omega]
          exact z3)
        have Z4 := Lib.hid ((BQ7.out.set_ 0 (.string ⟨(encI word ++ U.enc c.toNat).toArray⟩)).set_ 1 (.slice (some ⟨g2, 0, none⟩) (levels.length + 1 + 1) cap2))
        clear z1 z2 z3
        go_wp2_with fail
        exact ⟨⟨k + 1, 0, word ++ [c], levels ++ [lv], (.slice (some ⟨g2, 0, none⟩) (levels.length + 1 + 1) cap2), hlt, by go_num, Z3, Z2, Lib.hid (by have := Z4.out; rw [encI_append, show encI [c] = U.enc c.toNat from by simp [encI, U.encs]]; simpa using this), Z1, Lib.hid (by rw [← HW2.out, HDR.out, HNL.out, List.append_assoc]; rfl), Lib.hid (by rw [← HL2.out, HDR.out, HNL.out, List.append_assoc]; rfl), by simp; omega, by simp; omega⟩, by simp [intOf]; omega⟩
    · have hke : k = M.length := by omega
      have hnil : M.drop k = [] := by rw [hke]; exact List.drop_length
      have hW3 : word = (parseGo 0 M).1 := by have := HW2.out; rw [hnil] at this; simpa [parseGo] using this
      have hL3 : ll = (parseGo 0 M).2 := by have := HL2.out; rw [hnil] at this; rw [← HLL.out]; simpa [parseGo] using this
      have HPat2 := Lib.hid (show patOf L = ⟨encI word, ll, true, false⟩ by rw [HPat.out, hW3, hL3])
      have hel := encI_le word
      have d7 : decide (k < M.length) = false := by simp [hlt]
      obtain ⟨nc, tx, hpr⟩ : ∃ nc tx, printP (patOf L) = (nc, tx) := ⟨_, _, rfl⟩
      have HPR := Lib.hid hpr
      have HPO2 := Lib.hid (show par2 s = (⟨encI word, ll, true, false⟩, decide ((nc, tx) = (0, s))) by rw [HPo.out, hpr, HPat2.out])
      have HPV := Lib.hid (show IntRow wr w1.heap.size (.slice (some ⟨g, 0, none⟩) (levels.length + 1) pcap) ll by have := HP.out; unfold IntRow at this ⊢; rw [hlle] at this ⊢; exact this)
      have HBR := Lib.hid (HB1.out.below HB.out (by omega))
      have hpn2 : levels.length + 1 ≤ pcap := by omega
      clear hpr hW3 hL3 hnil
      by_cases hn : nc = 0
      · subst hn
        by_cases ht : tx = s
        · have et : ((⟨tx.toArray⟩ : ByteArray).toList == (⟨s.toArray⟩ : ByteArray).toList) = true := seq_t (by rw [ht])
          have et2 : (tx == s) = true := by rw [beq_iff_eq]; exact ht
          have HOK2 := Lib.hid (show par2 s = (⟨encI word, ll, true, false⟩, true) by rw [HPO2.out, ht]; simp)
          clear ht
          go_wp2_with (go_at_call 19; refine (print2_any ⟨encI word, ll, true, false⟩ (.slice (some ⟨g, 0, none⟩) (levels.length + 1) pcap) (by show (encI word).length ≤ _; omega) (by show ll.length ≤ _; omega) _ (Ints.of_owns HPV.out)).mono ?_; unfold PrintPost; rw [← HPat2.out, HPR.out]; rintro e w7 ⟨rfl, hb7⟩; have BQ7 := Lib.hid (HBQ.out.below hb7 HBQ.out.lt); obtain ⟨x0, x1, x2, x3⟩ := BQ7.out.four; rw [hlle] at x1; have BR := Lib.hid (HBR.out.below hb7 HBR.out.lt); obtain ⟨y0, y1, y2, y3⟩ := BR.out.four; have f0 := BR.out.frozen 0; have f1 := BR.out.frozen 1; have f2 := BR.out.frozen 2; have f3 := BR.out.frozen 3; have HF := Lib.hid (HBW.out.trans ((HB.out.trans (hb7.mono hrs)).mono (by omega))); have S7 := Lib.hid (row_turn HPV.out (Turn.ofBelow (F := []) hb7 (Nat.le_refl _)) (fun _ _ => by simp)))
          obtain ⟨c0, c1, c2, c3⟩ := (BR.out.store4 (.string ⟨(encI word).toArray⟩) (.slice (some ⟨g, 0, none⟩) (levels.length + 1) pcap) (.bool true) (.bool false)).four
          have S8 := row_turn S7.out (turn_store4 w7 w.heap.size (.string ⟨(encI word).toArray⟩) (.slice (some ⟨g, 0, none⟩) (levels.length + 1) pcap) (.bool true) (.bool false)) (fun g hg hm => by have := row_base S7.out g hg; simp at hm; omega)
          have hp := par2Post (pv := .slice (some ⟨g, 0, none⟩) (levels.length + 1) pcap) HOK2.out (below_store4 HF.out (Nat.le_refl _) (.string ⟨(encI word).toArray⟩) (.slice (some ⟨g, 0, none⟩) (levels.length + 1) pcap) (.bool true) (.bool false)) (IntRow.weak S8 (by omega))
          refine bodyPost_ret (v := .tuple #[patV ⟨encI word, ll, true, false⟩ (.slice (some ⟨g, 0, none⟩) (levels.length + 1) pcap), .bool true]) (by simp [results, Tryd.results22, go_sem, patV, c0, c1, c2, c3]) rfl hp
        · have et : ((⟨tx.toArray⟩ : ByteArray).toList == (⟨s.toArray⟩ : ByteArray).toList) = false := seq_f (fun e => ht (by have := congrArg (fun b : ByteArray => b.data.toList) e; exact this))
          have et2 : (tx == s) = false := by rw [beq_eq_false_iff_ne]; exact ht
          have HOK2 := Lib.hid (show par2 s = (⟨encI word, ll, true, false⟩, false) by rw [HPO2.out, decide_eq_false (fun e => ht (by injection e))])
          clear ht
          go_wp2_with (go_at_call 19; refine (print2_any ⟨encI word, ll, true, false⟩ (.slice (some ⟨g, 0, none⟩) (levels.length + 1) pcap) (by show (encI word).length ≤ _; omega) (by show ll.length ≤ _; omega) _ (Ints.of_owns HPV.out)).mono ?_; unfold PrintPost; rw [← HPat2.out, HPR.out]; rintro e w7 ⟨rfl, hb7⟩; have BQ7 := Lib.hid (HBQ.out.below hb7 HBQ.out.lt); obtain ⟨x0, x1, x2, x3⟩ := BQ7.out.four; rw [hlle] at x1; have BR := Lib.hid (HBR.out.below hb7 HBR.out.lt); obtain ⟨y0, y1, y2, y3⟩ := BR.out.four; have f0 := BR.out.frozen 0; have f1 := BR.out.frozen 1; have f2 := BR.out.frozen 2; have f3 := BR.out.frozen 3; have HF := Lib.hid (HBW.out.trans ((HB.out.trans (hb7.mono hrs)).mono (by omega))); have S7 := Lib.hid (row_turn HPV.out (Turn.ofBelow (F := []) hb7 (Nat.le_refl _)) (fun _ _ => by simp)))
          obtain ⟨c0, c1, c2, c3⟩ := (BR.out.store4 (.string ⟨(encI word).toArray⟩) (.slice (some ⟨g, 0, none⟩) (levels.length + 1) pcap) (.bool true) (.bool false)).four
          have S8 := row_turn S7.out (turn_store4 w7 w.heap.size (.string ⟨(encI word).toArray⟩) (.slice (some ⟨g, 0, none⟩) (levels.length + 1) pcap) (.bool true) (.bool false)) (fun g hg hm => by have := row_base S7.out g hg; simp at hm; omega)
          have hp := par2Post (pv := .slice (some ⟨g, 0, none⟩) (levels.length + 1) pcap) HOK2.out (below_store4 HF.out (Nat.le_refl _) (.string ⟨(encI word).toArray⟩) (.slice (some ⟨g, 0, none⟩) (levels.length + 1) pcap) (.bool true) (.bool false)) (IntRow.weak S8 (by omega))
          refine bodyPost_ret (v := .tuple #[patV ⟨encI word, ll, true, false⟩ (.slice (some ⟨g, 0, none⟩) (levels.length + 1) pcap), .bool false]) (by simp [results, Tryd.results22, go_sem, patV, c0, c1, c2, c3]) rfl hp
      · have en0 : (((nc : Nat) : Int) == 0) = false := by rw [beq_eq_false_iff_ne]; omega
        have en1 : (nc = 0) = False := by simp [hn]
        have HOK2 := Lib.hid (show par2 s = (⟨encI word, ll, true, false⟩, false) by rw [HPO2.out, decide_eq_false (fun e => hn (by injection e))])
        go_wp2_with (go_at_call 19; refine (print2_any ⟨encI word, ll, true, false⟩ (.slice (some ⟨g, 0, none⟩) (levels.length + 1) pcap) (by show (encI word).length ≤ _; omega) (by show ll.length ≤ _; omega) _ (Ints.of_owns HPV.out)).mono ?_; unfold PrintPost; rw [← HPat2.out, HPR.out]; rintro e w7 ⟨rfl, hb7⟩; have BQ7 := Lib.hid (HBQ.out.below hb7 HBQ.out.lt); obtain ⟨x0, x1, x2, x3⟩ := BQ7.out.four; rw [hlle] at x1; have BR := Lib.hid (HBR.out.below hb7 HBR.out.lt); obtain ⟨y0, y1, y2, y3⟩ := BR.out.four; have f0 := BR.out.frozen 0; have f1 := BR.out.frozen 1; have f2 := BR.out.frozen 2; have f3 := BR.out.frozen 3; have HF := Lib.hid (HBW.out.trans ((HB.out.trans (hb7.mono hrs)).mono (by omega))); have S7 := Lib.hid (row_turn HPV.out (Turn.ofBelow (F := []) hb7 (Nat.le_refl _)) (fun _ _ => by simp)))
        obtain ⟨c0, c1, c2, c3⟩ := (BR.out.store4 (.string ⟨(encI word).toArray⟩) (.slice (some ⟨g, 0, none⟩) (levels.length + 1) pcap) (.bool true) (.bool false)).four
        have S8 := row_turn S7.out (turn_store4 w7 w.heap.size (.string ⟨(encI word).toArray⟩) (.slice (some ⟨g, 0, none⟩) (levels.length + 1) pcap) (.bool true) (.bool false)) (fun g hg hm => by have := row_base S7.out g hg; simp at hm; omega)
        have hp := par2Post (pv := .slice (some ⟨g, 0, none⟩) (levels.length + 1) pcap) HOK2.out (below_store4 HF.out (Nat.le_refl _) (.string ⟨(encI word).toArray⟩) (.slice (some ⟨g, 0, none⟩) (levels.length + 1) pcap) (.bool true) (.bool false)) (IntRow.weak S8 (by omega))
        refine bodyPost_ret (v := .tuple #[patV ⟨encI word, ll, true, false⟩ (.slice (some ⟨g, 0, none⟩) (levels.length + 1) pcap), .bool false]) (by simp [results, Tryd.results22, go_sem, patV, c0, c1, c2, c3]) rfl hp
end Go.Proofs.YtdcdlmigagjbiaaDoor
