/- ParsePattern walked. -/
import Derived.Test.YtdcdlmigagjbiaaDoorKg
import Derived.Deep.RegionHeld3
import Derived.Deep.QuietTactic
import Derived.IntWalk
namespace Go.Proofs.YtdcdlmigagjbiaaDoor
open Go.RowKit Go.Maps
set_option maxRecDepth 100000 in
set_option maxHeartbeats 16000000 in
theorem parse_any (s : List UInt8) (hs : s.length ≤ 100000000) (w : World) :
    Calls Tryd.prog 20 #[.string ⟨s.toArray⟩] w (ParsePost s w) := by
  obtain ⟨i0, hi, hz0, hz1, hz2⟩ := info_parts int_info
  cases hb : (U.bad s).isEmpty with
  | false =>
    have HP := Lib.hid (parseP_bad hb)
    have HB := Lib.hid hb
    clear hb hi hz0 hz1 hz2
    go_enter Tryd.func20, Tryd.ntmps20
    go_wp2_with (first
      | (go_at_call 38; refine (pts_bad HB.out (by omega) _).mono ?_; rintro e w1 ⟨rfl, hb1⟩; have B1 := (Blk.new w 33 #[.string ⟨#[]⟩, .slice none 0 0, .bool false, .bool false]).below hb1 (by simp); obtain ⟨b0, b1, b2, b3⟩ := B1.four; have f0 := B1.frozen 0; have f1 := B1.frozen 1; have f2 := B1.frozen 2; have f3 := B1.frozen 3))
    obtain ⟨c0, c1, c2, c3⟩ := (B1.store4 (.string ⟨#[]⟩) (.slice none 0 0) (.bool false) (.bool false)).four
    refine bodyPost_ret (v := .tuple #[zeroPV, .int .i64 12]) (by simp [results, Tryd.results20, go_sem, zeroPV, c0, c1, c2, c3]) rfl (parsePost_no (n := 12) HP.out (below_store4 (((Below.refl _ w).alloc (Nat.le_refl _) _).trans (hb1.mono (by simp))) (Nat.le_refl _) _ _ _ _))
  | true =>
    obtain ⟨L, hL⟩ : ∃ L, ptsI s = L := ⟨_, rfl⟩
    have hlen : L.length ≤ s.length := by rw [← hL]; exact pts_len0 ⟨s.toArray⟩
    have HPt := Lib.hid (fun w => pts_ok hb (by omega) w)
    rw [hL] at HPt
    have HPn := Lib.hid (parseP_no hb)
    have HPo := Lib.hid (parseP_ok hb)
    have HOK := Lib.hid (okI_word s)
    rw [hL] at HPn HPo HOK
    clear hb hL
    by_cases hL0 : L.length = 0
    · have d0 : decide (0 < L.length) = false := by simp [hL0]
      go_enter Tryd.func20, Tryd.ntmps20
      go_wp2_with (first
        | (go_at_call 38; refine (HPt.out _).mono ?_; rintro e w1 ⟨ao, cap, rfl, hb1, hrow⟩; have hbW := ((Below.refl w.heap.size w).alloc (Nat.le_refl _) (.cells #[.string ⟨#[]⟩, .slice none 0 0, .bool false, .bool false] 33)).trans (hb1.mono (by simp)); have hw1 := hb1.size; simp at hw1; have B1 := (Blk.new w 33 #[.string ⟨#[]⟩, .slice none 0 0, .bool false, .bool false]).below hb1 (by simp)))
      obtain ⟨V, hV⟩ : ∃ V, w1.alloc (.cells #[.string ⟨#[]⟩, .slice none 0 0, .bool false, .bool false] 33) = V := ⟨_, rfl⟩
      simp only [hV]
      obtain ⟨M, hMd⟩ : ∃ M, L = M := ⟨_, rfl⟩
      have hM : stripE (stripB L) = M ∧ hasB L = false ∧ hasE (stripB L) = false := by
        rw [← hMd, List.eq_nil_of_length_eq_zero hL0]
        exact ⟨rfl, rfl, rfl⟩
      have hM0 : M.length = 0 := by rw [← hMd]; exact hL0
      have HM := Lib.hid (show stripE (stripB L) = M ∧ hasB L = false ∧ hasE (stripB L) = false from hM)
      have HPat := Lib.hid (show patOf L = ⟨encI (parseGo 0 M).1, (parseGo 0 M).2, false, false⟩ by unfold patOf; rw [HM.out.1, HM.out.2.1, HM.out.2.2])
      have HOKM := Lib.hid (show okI (parseGo 0 M).1 = true by have := HOK.out; rwa [HM.out.1] at this)
      have hMl : M.length ≤ s.length := by have := strip_len L; rw [HM.out.1] at this; omega
      have HVB := Lib.hid (show Below w.heap.size w V by rw [← hV]; exact (hbW.alloc (by omega) _))
      have HVQ := Lib.hid (show Blk V w1.heap.size 33 #[.string ⟨#[]⟩, .slice none 0 0, .bool false, .bool false] by rw [← hV]; exact Blk.new _ _ _)
      have HVR := Lib.hid (show Blk V w.heap.size 33 #[.string ⟨#[]⟩, .slice none 0 0, .bool false, .bool false] by rw [← hV]; exact B1.alloc _)
      have hVs : V.heap.size = w1.heap.size + 1 := by rw [← hV]; simp
      clear hM hV B1 hbW
      obtain ⟨q, hq⟩ : ∃ q, w1.heap.size = q := ⟨_, rfl⟩
      rw [hq] at HVQ hVs
      simp only [hq]
      have hwq : w.heap.size < q := by omega
      go_loopw [7, 8, 54] (fun lvv wv i wr => ∃ (k : Nat) (lv : Int) (word levels : List Int) (pv : Value), k ≤ M.length ∧ i = .int .i64 (k : Int) ∧ lvv = .int .i64 lv ∧ Hid (IntRow wr V.heap.size wv word) ∧ Hid (IntRow wr V.heap.size pv levels) ∧ Hid (∀ g, wv.ownBlock = some g → pv.ownBlock ≠ some g) ∧ Hid (Blk wr q 33 #[.string ⟨#[]⟩, pv, .bool false, .bool false]) ∧ Hid (Turn [q] V wr) ∧ Hid (word ++ (parseGo lv (M.drop k)).1 = (parseGo 0 M).1) ∧ Hid (levels ++ (parseGo lv (M.drop k)).2 = (parseGo 0 M).2) ∧ word.length ≤ k ∧ levels.length ≤ k) (fun _ _ i _ => M.length - (intOf i).toNat)
      case atStart => exact ⟨0, 0, [], [], .slice none 0 0, Nat.zero_le _, rfl, rfl, Lib.hid (IntRow.nil _ _), Lib.hid (IntRow.nil _ _), Lib.hid (fun g hg => by simp [Value.ownBlock] at hg), Lib.hid HVQ.out, Lib.hid ⟨rfl, rfl, rfl, Nat.le_refl _, fun _ _ _ => rfl⟩, Lib.hid rfl, Lib.hid rfl, Nat.zero_le _, Nat.zero_le _⟩
      case round =>
        obtain ⟨k, lv, word, levels, pv, hk, rfl, rfl, HW, HP, HNE, HBQ, HT, HW2, HL2, hwl, hll⟩ := hrel
        have hrs := HT.out.size
        have hqlt : q < wr.heap.size := by omega
        by_cases hlt : k < M.length
        · exact absurd hlt (by omega)
        · have hke : k = M.length := by omega
          have hnil : M.drop k = [] := by rw [hke]; exact List.drop_length
          have hW3 : word = (parseGo 0 M).1 := by have := HW2.out; rw [hnil] at this; simpa [parseGo] using this
          have hL3 : levels ++ [lv] = (parseGo 0 M).2 := by have := HL2.out; rw [hnil] at this; simpa [parseGo] using this
          have HPat2 := Lib.hid (show patOf L = ⟨encI word, levels ++ [lv], false, false⟩ by rw [HPat.out, hW3, hL3])
          have hok : okI word = true := by rw [hW3]; exact HOKM.out
          have HMK := Lib.hid (show makeP word = (encI word, 0) by unfold makeP; rw [hok]; rfl)
          have hel := encI_le word
          have d7 : decide (k < M.length) = false := by simp [hlt]
          obtain ⟨nc, tx, hpr⟩ : ∃ nc tx, printP (patOf L) = (nc, tx) := ⟨_, _, rfl⟩
          have HPR := Lib.hid hpr
          clear hpr
          have c11 := HBQ.out.cell 1
          simp at c11
          clear hW3 hL3 hok hnil
          go_wp2_with (first
            | (at_builtin; refine wpList_append_own_at _ rfl _ _ 26 rfl V.heap.size 3 i0 (.int .i64 0) 1 8 Tryd.underlying26 hi hz0 hz1 hz2 rfl (by decide) pv levels.length (levels.map (Value.int .i64)) rfl (World.ownsRow.alloc HP.out _) ⟨wr.heap.size, 0, none⟩ 1 1 [.int .i64 lv] rfl rfl (cell_one_new _ _ _) (by intro u hu; simp at hu; subst hu; rfl) (by unfold maxLen; omega) (by omega) (by simp; omega) ?_; intro pv3 w3 hown hg _ hat; obtain ⟨s1, s2, s3, s4, s5⟩ := row_app HW.out (fun g hg hh => HNE.out g hh hg) hown rfl hg hat; obtain ⟨pa3, pc3, hpe⟩ := row_slice s1; rw [show (levels ++ [lv]).length = levels.length + 1 from by simp] at hpe; subst hpe; have S1 := Lib.hid s1; have S2 := Lib.hid s2; have BQ3 := Lib.hid (HBQ.out.turn s4 (HP.out.notin (by omega))); have T3 := Lib.hid (turn_row HT.out HP.out s4); have c31 := BQ3.out.cell 1; have f31 := BQ3.out.frozen 1; simp at c31; have TS := Lib.hid ((Turn.refl [q] w3).setCell (p := ⟨q, 1, none⟩) (.inl (by simp)) (.slice pa3 (levels.length + 1) pc3)); have S1' := Lib.hid (row_turn S1.out TS.out (fun g hg hm => by have := S1.out.base g hg; simp at hm; omega)); have S2' := Lib.hid (row_turn S2.out TS.out (fun g hg hm => by have := S2.out.base g hg; simp at hm; omega)); have BQ4 : Hid (Blk (w3.setCell ⟨q, 1, none⟩ (.slice pa3 (levels.length + 1) pc3)) q 33 #[.string ⟨#[]⟩, .slice pa3 (levels.length + 1) pc3, .bool false, .bool false]) := Lib.hid (by have := BQ3.out.set_ 1 (.slice pa3 (levels.length + 1) pc3); simpa using this); have T4 := Lib.hid (T3.out.setCell (p := ⟨q, 1, none⟩) (.inl (by simp)) (.slice pa3 (levels.length + 1) pc3)); clear s1 s2 s3 s4 hown hg hat)
            | (go_at_call 41; refine (make_any _ word _ (by omega) (Ints.of_owns S2'.out)).mono ?_; rw [HMK.out]; rintro e w5 ⟨rfl, hb5⟩; have hs5 := hb5.size; have BQ5 := Lib.hid (BQ4.out.below hb5 BQ4.out.lt); have c50 := BQ5.out.cell 0; have f50 := BQ5.out.frozen 0; simp at c50; have BQ6 : Hid (Blk (w5.setCell ⟨q, 0, none⟩ (.string ⟨(encI word).toArray⟩)) q 33 #[.string ⟨(encI word).toArray⟩, .slice pa3 (levels.length + 1) pc3, .bool false, .bool false]) := Lib.hid (by have := BQ5.out.set_ 0 (.string ⟨(encI word).toArray⟩); simpa using this); obtain ⟨v0, v1, v2, v3⟩ := BQ6.out.four; have T6 := Lib.hid ((T4.out.below hb5 T4.out.size).setCell (p := ⟨q, 0, none⟩) (.inl (by simp)) (.string ⟨(encI word).toArray⟩)); have S6 := Lib.hid (row_turn (row_turn S1'.out (Turn.ofBelow (F := []) hb5 (Nat.le_refl _)) (fun _ _ => by simp)) ((Turn.refl [q] w5).setCell (p := ⟨q, 0, none⟩) (.inl (by simp)) (.string ⟨(encI word).toArray⟩)) (fun g hg hm => by have := row_base S1'.out g hg; simp at hm; omega)))
            | (go_at_call 18; refine (print_any ⟨encI word, levels ++ [lv], false, false⟩ (.slice pa3 (levels.length + 1) pc3) (by show (encI word).length ≤ _; omega) (by show (levels ++ [lv]).length ≤ _; simp; omega) _ (Ints.of_owns S6.out)).mono ?_; unfold PrintPost; rw [← HPat2.out, HPR.out]; rintro e w7 ⟨rfl, hb7⟩; have BQ7 := Lib.hid (BQ6.out.below hb7 BQ6.out.lt); obtain ⟨x0, x1, x2, x3⟩ := BQ7.out.four; have BR := Lib.hid ((HVR.out.turn T6.out (by simp; omega)).below hb7 (by have := (HVR.out.turn T6.out (by simp; omega)).lt; exact this)); obtain ⟨y0, y1, y2, y3⟩ := BR.out.four; have f0 := BR.out.frozen 0; have f1 := BR.out.frozen 1; have f2 := BR.out.frozen 2; have f3 := BR.out.frozen 3; have HF := Lib.hid (HVB.out.trans ((T6.out.toBelow (fun i hi => by simp at hi; omega) (by omega)).trans (hb7.mono (by have := T6.out.size; omega)))); have S7 := Lib.hid (row_turn S6.out (Turn.ofBelow (F := []) hb7 (Nat.le_refl _)) (fun _ _ => by simp))))
          all_goals
            first
              | (have hn : nc = 0 := by assumption
                 have ht : (!tx == s) = false := by assumption
                 have ht2 : tx = s := by simpa using ht
                 obtain ⟨c0, c1, c2, c3⟩ := (BR.out.store4 (.string ⟨(encI word).toArray⟩) (.slice pa3 (levels.length + 1) pc3) (.bool false) (.bool false)).four
                 have S8 := row_turn S7.out (turn_store4 w7 w.heap.size (.string ⟨(encI word).toArray⟩) (.slice pa3 (levels.length + 1) pc3) (.bool false) (.bool false)) (fun g hg hm => by have := row_base S7.out g hg; simp at hm; omega)
                 have hp := parsePost (s := s) (n := 0) (P := patOf L) (pv := .slice pa3 (levels.length + 1) pc3) (HPo.out (by rw [HPR.out, hn, ht2])) (below_store4 HF.out (Nat.le_refl _) (.string ⟨(encI word).toArray⟩) (.slice pa3 (levels.length + 1) pc3) (.bool false) (.bool false)) (by rw [HPat2.out]; exact IntRow.weak S8 (by omega))
                 rw [HPat2.out] at hp
                 exact bodyPost_ret (v := .tuple #[patV ⟨encI word, levels ++ [lv], false, false⟩ (.slice pa3 (levels.length + 1) pc3), .int .i64 0]) (by simp [results, Tryd.results20, go_sem, patV, c0, c1, c2, c3]) rfl hp)
              | (have hno : printP (patOf L) ≠ (0, s) := by
                   rw [HPR.out]
                   intro e
                   injection e with e1 e2
                   first
                     | exact absurd e1 (by assumption)
                     | (have ht : (!tx == s) = true := by assumption
                        rw [e2] at ht
                        simp at ht)
                 obtain ⟨c0, c1, c2, c3⟩ := (BR.out.store4 (.string ⟨#[]⟩) (.slice none 0 0) (.bool false) (.bool false)).four
                 exact bodyPost_ret (v := .tuple #[zeroPV, .int .i64 14]) (by simp [results, Tryd.results20, go_sem, zeroPV, c0, c1, c2, c3]) rfl (parsePost_no (n := 14) (HPn.out hno) (below_store4 HF.out (Nat.le_refl _) _ _ _ _)))
    · have hpos : 0 < L.length := by omega
      have d0 : decide (0 < L.length) = true := by simp [hpos]
      obtain ⟨x, hx⟩ : ∃ x, L.getD 0 0 = x := ⟨_, rfl⟩
      have HX := Lib.hid hx
      obtain ⟨y, hy⟩ : ∃ y, L.getD (L.length - 1) 0 = y := ⟨_, rfl⟩
      have HY := Lib.hid hy
      clear hx hy
      have z1 : (1 : Int) ≤ (L.length : Int) := by omega
      have z3 : 1 ≤ L.length := hpos
      by_cases hx46 : x = 46
      · have e0 : (x == 46) = true := by simp [hx46]
        by_cases h1 : L.length = 1
        · have d1 : decide (1 < L.length) = false := by simp; omega
          go_enter Tryd.func20, Tryd.ntmps20
          go_wp2_with (first
            | (go_at_call 38; refine (HPt.out _).mono ?_; rintro e w1 ⟨ao, cap, rfl, hb1, hrow⟩; have hbW := ((Below.refl w.heap.size w).alloc (Nat.le_refl _) (.cells #[.string ⟨#[]⟩, .slice none 0 0, .bool false, .bool false] 33)).trans (hb1.mono (by simp)); have hw1 := hb1.size; simp at hw1; have B1 := (Blk.new w 33 #[.string ⟨#[]⟩, .slice none 0 0, .bool false, .bool false]).below hb1 (by simp); obtain ⟨b, off, rfl, hblt, hcl, hlc, hcm⟩ := ints_pos (Ints.of_owns hrow.out) hpos; have hcA : ∀ (o : Obj) j, j < L.length → (w1.alloc o).cell? ⟨b, off + j, none⟩ = some (.int .i64 (L.getD j 0)) := fun o j hj => (World.cell?_of_block (a := ⟨b, off + j, none⟩) (Below.heap_alloc w1 _ b hblt)).trans (hcl j hj); have HCL := Lib.hid hcA; have hc0 := hcA (.cells #[.string ⟨#[]⟩, .slice none 0 0, .bool false, .bool false] 33) 0 hpos; rw [HX.out, Nat.add_zero] at hc0; have hcY := hcA (.cells #[.string ⟨#[]⟩, .slice none 0 0, .bool true, .bool false] 33) (L.length - 1) (by omega); rw [HY.out] at hcY; clear hcl hcA; have HQ := Lib.hid (Blk.new w1 33 #[.string ⟨#[]⟩, .slice none 0 0, .bool false, .bool false]); have HQ2 := Lib.hid (Blk.new w1 33 #[.string ⟨#[]⟩, .slice none 0 0, .bool true, .bool false]); have g2 := HQ.out.frozen 2; have g3 := HQ2.out.frozen 3; obtain ⟨q0, q1, q2, q3⟩ := HQ.out.four; obtain ⟨p0, p1, p2, p3⟩ := HQ2.out.four; have z2 : (L.length : Int) ≤ (cap : Int) := (by omega)))
          apply region_one
          · go_region_law (fail)
            all_goals exact ⟨rfl, rfl⟩
          go_wp2_with fail
          all_goals
            obtain ⟨V, hV⟩ : ∃ V, w1.alloc (.cells #[.string ⟨#[]⟩, .slice none 0 0, .bool true, .bool false] 33) = V := ⟨_, rfl⟩
            have HCV := HCL.out (.cells #[.string ⟨#[]⟩, .slice none 0 0, .bool true, .bool false] 33)
            rw [hV] at HCV
            simp only [hV]
            have HCL := Lib.hid HCV
            clear HCV
            obtain ⟨M, hMd, hMn⟩ : ∃ M, L.tail = M ∧ M.length = L.length - 1 := ⟨L.tail, rfl, by simp; try omega⟩
            have hM : stripE (stripB L) = M ∧ hasB L = true ∧ hasE (stripB L) = false := by
              rw [← hMd]
              exact strip_b0 HX.out HY.out hpos hx46 h1
            have hMg : ∀ j, j < M.length → M.getD j 0 = L.getD (j + 1) 0 := fun j hj => by rw [← hMd] at hj ⊢; exact strip_get_t L j
            have HMG := Lib.hid hMg
            clear hMg hMd
            have HM := Lib.hid (show stripE (stripB L) = M ∧ hasB L = true ∧ hasE (stripB L) = false from hM)
            have HPat := Lib.hid (show patOf L = ⟨encI (parseGo 0 M).1, (parseGo 0 M).2, true, false⟩ by unfold patOf; rw [HM.out.1, HM.out.2.1, HM.out.2.2])
            have HOKM := Lib.hid (show okI (parseGo 0 M).1 = true by have := HOK.out; rwa [HM.out.1] at this)
            have hMl : M.length ≤ s.length := by have := strip_len L; rw [HM.out.1] at this; omega
            have HVB := Lib.hid (show Below w.heap.size w V by rw [← hV]; exact (hbW.alloc (by omega) _))
            have HVQ := Lib.hid (show Blk V w1.heap.size 33 #[.string ⟨#[]⟩, .slice none 0 0, .bool true, .bool false] by rw [← hV]; exact Blk.new _ _ _)
            have HVR := Lib.hid (show Blk V w.heap.size 33 #[.string ⟨#[]⟩, .slice none 0 0, .bool false, .bool false] by rw [← hV]; exact B1.alloc _)
            have hVs : V.heap.size = w1.heap.size + 1 := by rw [← hV]; simp
            clear hM hV B1 hbW
            obtain ⟨q, hq⟩ : ∃ q, w1.heap.size = q := ⟨_, rfl⟩
            rw [hq] at HVQ hVs
            simp only [hq]
            have hwq : w.heap.size < q := by omega
            go_loopw [7, 8, 54] (fun lvv wv i wr => ∃ (k : Nat) (lv : Int) (word levels : List Int) (pv : Value), k ≤ M.length ∧ i = .int .i64 (k : Int) ∧ lvv = .int .i64 lv ∧ Hid (IntRow wr V.heap.size wv word) ∧ Hid (IntRow wr V.heap.size pv levels) ∧ Hid (∀ g, wv.ownBlock = some g → pv.ownBlock ≠ some g) ∧ Hid (Blk wr q 33 #[.string ⟨#[]⟩, pv, .bool true, .bool false]) ∧ Hid (Turn [q] V wr) ∧ Hid (word ++ (parseGo lv (M.drop k)).1 = (parseGo 0 M).1) ∧ Hid (levels ++ (parseGo lv (M.drop k)).2 = (parseGo 0 M).2) ∧ word.length ≤ k ∧ levels.length ≤ k) (fun _ _ i _ => M.length - (intOf i).toNat)
            case atStart => exact ⟨0, 0, [], [], .slice none 0 0, Nat.zero_le _, rfl, rfl, Lib.hid (IntRow.nil _ _), Lib.hid (IntRow.nil _ _), Lib.hid (fun g hg => by simp [Value.ownBlock] at hg), Lib.hid HVQ.out, Lib.hid ⟨rfl, rfl, rfl, Nat.le_refl _, fun _ _ _ => rfl⟩, Lib.hid rfl, Lib.hid rfl, Nat.zero_le _, Nat.zero_le _⟩
            case round =>
              obtain ⟨k, lv, word, levels, pv, hk, rfl, rfl, HW, HP, HNE, HBQ, HT, HW2, HL2, hwl, hll⟩ := hrel
              have hrs := HT.out.size
              have hqlt : q < wr.heap.size := by omega
              by_cases hlt : k < M.length
              · exact absurd hlt (by omega)
              · have hke : k = M.length := by omega
                have hnil : M.drop k = [] := by rw [hke]; exact List.drop_length
                have hW3 : word = (parseGo 0 M).1 := by have := HW2.out; rw [hnil] at this; simpa [parseGo] using this
                have hL3 : levels ++ [lv] = (parseGo 0 M).2 := by have := HL2.out; rw [hnil] at this; simpa [parseGo] using this
                have HPat2 := Lib.hid (show patOf L = ⟨encI word, levels ++ [lv], true, false⟩ by rw [HPat.out, hW3, hL3])
                have hok : okI word = true := by rw [hW3]; exact HOKM.out
                have HMK := Lib.hid (show makeP word = (encI word, 0) by unfold makeP; rw [hok]; rfl)
                have hel := encI_le word
                have d7 : decide (k < M.length) = false := by simp [hlt]
                obtain ⟨nc, tx, hpr⟩ : ∃ nc tx, printP (patOf L) = (nc, tx) := ⟨_, _, rfl⟩
                have HPR := Lib.hid hpr
                clear hpr
                have c11 := HBQ.out.cell 1
                simp at c11
                clear hW3 hL3 hok hnil
                go_wp2_with (first
                  | (at_builtin; refine wpList_append_own_at _ rfl _ _ 26 rfl V.heap.size 3 i0 (.int .i64 0) 1 8 Tryd.underlying26 hi hz0 hz1 hz2 rfl (by decide) pv levels.length (levels.map (Value.int .i64)) rfl (World.ownsRow.alloc HP.out _) ⟨wr.heap.size, 0, none⟩ 1 1 [.int .i64 lv] rfl rfl (cell_one_new _ _ _) (by intro u hu; simp at hu; subst hu; rfl) (by unfold maxLen; omega) (by omega) (by simp; omega) ?_; intro pv3 w3 hown hg _ hat; obtain ⟨s1, s2, s3, s4, s5⟩ := row_app HW.out (fun g hg hh => HNE.out g hh hg) hown rfl hg hat; obtain ⟨pa3, pc3, hpe⟩ := row_slice s1; rw [show (levels ++ [lv]).length = levels.length + 1 from by simp] at hpe; subst hpe; have S1 := Lib.hid s1; have S2 := Lib.hid s2; have BQ3 := Lib.hid (HBQ.out.turn s4 (HP.out.notin (by omega))); have T3 := Lib.hid (turn_row HT.out HP.out s4); have c31 := BQ3.out.cell 1; have f31 := BQ3.out.frozen 1; simp at c31; have TS := Lib.hid ((Turn.refl [q] w3).setCell (p := ⟨q, 1, none⟩) (.inl (by simp)) (.slice pa3 (levels.length + 1) pc3)); have S1' := Lib.hid (row_turn S1.out TS.out (fun g hg hm => by have := S1.out.base g hg; simp at hm; omega)); have S2' := Lib.hid (row_turn S2.out TS.out (fun g hg hm => by have := S2.out.base g hg; simp at hm; omega)); have BQ4 : Hid (Blk (w3.setCell ⟨q, 1, none⟩ (.slice pa3 (levels.length + 1) pc3)) q 33 #[.string ⟨#[]⟩, .slice pa3 (levels.length + 1) pc3, .bool true, .bool false]) := Lib.hid (by have := BQ3.out.set_ 1 (.slice pa3 (levels.length + 1) pc3); simpa using this); have T4 := Lib.hid (T3.out.setCell (p := ⟨q, 1, none⟩) (.inl (by simp)) (.slice pa3 (levels.length + 1) pc3)); clear s1 s2 s3 s4 hown hg hat)
                  | (go_at_call 41; refine (make_any _ word _ (by omega) (Ints.of_owns S2'.out)).mono ?_; rw [HMK.out]; rintro e w5 ⟨rfl, hb5⟩; have hs5 := hb5.size; have BQ5 := Lib.hid (BQ4.out.below hb5 BQ4.out.lt); have c50 := BQ5.out.cell 0; have f50 := BQ5.out.frozen 0; simp at c50; have BQ6 : Hid (Blk (w5.setCell ⟨q, 0, none⟩ (.string ⟨(encI word).toArray⟩)) q 33 #[.string ⟨(encI word).toArray⟩, .slice pa3 (levels.length + 1) pc3, .bool true, .bool false]) := Lib.hid (by have := BQ5.out.set_ 0 (.string ⟨(encI word).toArray⟩); simpa using this); obtain ⟨v0, v1, v2, v3⟩ := BQ6.out.four; have T6 := Lib.hid ((T4.out.below hb5 T4.out.size).setCell (p := ⟨q, 0, none⟩) (.inl (by simp)) (.string ⟨(encI word).toArray⟩)); have S6 := Lib.hid (row_turn (row_turn S1'.out (Turn.ofBelow (F := []) hb5 (Nat.le_refl _)) (fun _ _ => by simp)) ((Turn.refl [q] w5).setCell (p := ⟨q, 0, none⟩) (.inl (by simp)) (.string ⟨(encI word).toArray⟩)) (fun g hg hm => by have := row_base S1'.out g hg; simp at hm; omega)))
                  | (go_at_call 18; refine (print_any ⟨encI word, levels ++ [lv], true, false⟩ (.slice pa3 (levels.length + 1) pc3) (by show (encI word).length ≤ _; omega) (by show (levels ++ [lv]).length ≤ _; simp; omega) _ (Ints.of_owns S6.out)).mono ?_; unfold PrintPost; rw [← HPat2.out, HPR.out]; rintro e w7 ⟨rfl, hb7⟩; have BQ7 := Lib.hid (BQ6.out.below hb7 BQ6.out.lt); obtain ⟨x0, x1, x2, x3⟩ := BQ7.out.four; have BR := Lib.hid ((HVR.out.turn T6.out (by simp; omega)).below hb7 (by have := (HVR.out.turn T6.out (by simp; omega)).lt; exact this)); obtain ⟨y0, y1, y2, y3⟩ := BR.out.four; have f0 := BR.out.frozen 0; have f1 := BR.out.frozen 1; have f2 := BR.out.frozen 2; have f3 := BR.out.frozen 3; have HF := Lib.hid (HVB.out.trans ((T6.out.toBelow (fun i hi => by simp at hi; omega) (by omega)).trans (hb7.mono (by have := T6.out.size; omega)))); have S7 := Lib.hid (row_turn S6.out (Turn.ofBelow (F := []) hb7 (Nat.le_refl _)) (fun _ _ => by simp))))
                all_goals
                  first
                    | (have hn : nc = 0 := by assumption
                       have ht : (!tx == s) = false := by assumption
                       have ht2 : tx = s := by simpa using ht
                       obtain ⟨c0, c1, c2, c3⟩ := (BR.out.store4 (.string ⟨(encI word).toArray⟩) (.slice pa3 (levels.length + 1) pc3) (.bool true) (.bool false)).four
                       have S8 := row_turn S7.out (turn_store4 w7 w.heap.size (.string ⟨(encI word).toArray⟩) (.slice pa3 (levels.length + 1) pc3) (.bool true) (.bool false)) (fun g hg hm => by have := row_base S7.out g hg; simp at hm; omega)
                       have hp := parsePost (s := s) (n := 0) (P := patOf L) (pv := .slice pa3 (levels.length + 1) pc3) (HPo.out (by rw [HPR.out, hn, ht2])) (below_store4 HF.out (Nat.le_refl _) (.string ⟨(encI word).toArray⟩) (.slice pa3 (levels.length + 1) pc3) (.bool true) (.bool false)) (by rw [HPat2.out]; exact IntRow.weak S8 (by omega))
                       rw [HPat2.out] at hp
                       exact bodyPost_ret (v := .tuple #[patV ⟨encI word, levels ++ [lv], true, false⟩ (.slice pa3 (levels.length + 1) pc3), .int .i64 0]) (by simp [results, Tryd.results20, go_sem, patV, c0, c1, c2, c3]) rfl hp)
                    | (have hno : printP (patOf L) ≠ (0, s) := by
                         rw [HPR.out]
                         intro e
                         injection e with e1 e2
                         first
                           | exact absurd e1 (by assumption)
                           | (have ht : (!tx == s) = true := by assumption
                              rw [e2] at ht
                              simp at ht)
                       obtain ⟨c0, c1, c2, c3⟩ := (BR.out.store4 (.string ⟨#[]⟩) (.slice none 0 0) (.bool false) (.bool false)).four
                       exact bodyPost_ret (v := .tuple #[zeroPV, .int .i64 14]) (by simp [results, Tryd.results20, go_sem, zeroPV, c0, c1, c2, c3]) rfl (parsePost_no (n := 14) (HPn.out hno) (below_store4 HF.out (Nat.le_refl _) _ _ _ _)))
        · have d1 : decide (1 < L.length) = true := by simp; omega
          by_cases hy46 : y = 46
          · have e1 : (y == 46) = true := by simp [hy46]
            go_enter Tryd.func20, Tryd.ntmps20
            go_wp2_with (first
              | (go_at_call 38; refine (HPt.out _).mono ?_; rintro e w1 ⟨ao, cap, rfl, hb1, hrow⟩; have hbW := ((Below.refl w.heap.size w).alloc (Nat.le_refl _) (.cells #[.string ⟨#[]⟩, .slice none 0 0, .bool false, .bool false] 33)).trans (hb1.mono (by simp)); have hw1 := hb1.size; simp at hw1; have B1 := (Blk.new w 33 #[.string ⟨#[]⟩, .slice none 0 0, .bool false, .bool false]).below hb1 (by simp); obtain ⟨b, off, rfl, hblt, hcl, hlc, hcm⟩ := ints_pos (Ints.of_owns hrow.out) hpos; have hcA : ∀ (o : Obj) j, j < L.length → (w1.alloc o).cell? ⟨b, off + j, none⟩ = some (.int .i64 (L.getD j 0)) := fun o j hj => (World.cell?_of_block (a := ⟨b, off + j, none⟩) (Below.heap_alloc w1 _ b hblt)).trans (hcl j hj); have HCL := Lib.hid hcA; have hc0 := hcA (.cells #[.string ⟨#[]⟩, .slice none 0 0, .bool false, .bool false] 33) 0 hpos; rw [HX.out, Nat.add_zero] at hc0; have hcY := hcA (.cells #[.string ⟨#[]⟩, .slice none 0 0, .bool true, .bool false] 33) (L.length - 1) (by omega); rw [HY.out] at hcY; clear hcl hcA; have HQ := Lib.hid (Blk.new w1 33 #[.string ⟨#[]⟩, .slice none 0 0, .bool false, .bool false]); have HQ2 := Lib.hid (Blk.new w1 33 #[.string ⟨#[]⟩, .slice none 0 0, .bool true, .bool false]); have g2 := HQ.out.frozen 2; have g3 := HQ2.out.frozen 3; obtain ⟨q0, q1, q2, q3⟩ := HQ.out.four; obtain ⟨p0, p1, p2, p3⟩ := HQ2.out.four; have z2 : (L.length : Int) ≤ (cap : Int) := (by omega); have hcY2 : (w1.alloc (.cells #[.string ⟨#[]⟩, .slice none 0 0, .bool true, .bool false] 33)).cell? ⟨b, off + 1 + (L.length - 1 - 1), none⟩ = some (.int .i64 y) := (by rw [show off + 1 + (L.length - 1 - 1) = off + (L.length - 1) from by omega]; exact hcY)))
            apply region_one
            · go_region_law (fail)
              all_goals exact ⟨rfl, rfl⟩
            go_wp2_with fail
            have zh0 : (1 : Int) ≤ (((L.length - 1) : Nat) : Int) := by omega
            have zh1 : (0 : Int) ≤ (((L.length - 1) : Nat) : Int) - 1 := by omega
            have zh2 : (((L.length - 1) : Nat) : Int) - 1 ≤ (((cap - 1) : Nat) : Int) := by omega
            have zh3 : ((((L.length - 1) : Nat) : Int) - 1).toNat = (L.length - 1) - 1 := by omega
            have zw : IntKind.i64.wrap ((((L.length - 1) : Nat) : Int) - 1) = (((L.length - 1) : Nat) : Int) - 1 := IntWalk.i64_in _ (by omega)
            apply region_one
            · go_region_law (fail)
              all_goals exact ⟨rfl, rfl⟩
            go_wp2_with fail
            obtain ⟨V, hV⟩ : ∃ V, w1.alloc (.cells #[.string ⟨#[]⟩, .slice none 0 0, .bool true, .bool true] 33) = V := ⟨_, rfl⟩
            have HCV := HCL.out (.cells #[.string ⟨#[]⟩, .slice none 0 0, .bool true, .bool true] 33)
            rw [hV] at HCV
            simp only [hV]
            have HCL := Lib.hid HCV
            clear HCV
            obtain ⟨M, hMd, hMn⟩ : ∃ M, L.tail.dropLast = M ∧ M.length = L.length - 2 := ⟨L.tail.dropLast, rfl, by simp; try omega⟩
            have hM : stripE (stripB L) = M ∧ hasB L = true ∧ hasE (stripB L) = true := by
              rw [← hMd]
              exact strip_bt HX.out HY.out (by omega) hx46 hy46
            have hMg : ∀ j, j < M.length → M.getD j 0 = L.getD (j + 1) 0 := fun j hj => by rw [← hMd] at hj ⊢; exact strip_get_td L j hj
            have HMG := Lib.hid hMg
            clear hMg hMd
            have HM := Lib.hid (show stripE (stripB L) = M ∧ hasB L = true ∧ hasE (stripB L) = true from hM)
            have HPat := Lib.hid (show patOf L = ⟨encI (parseGo 0 M).1, (parseGo 0 M).2, true, true⟩ by unfold patOf; rw [HM.out.1, HM.out.2.1, HM.out.2.2])
            have HOKM := Lib.hid (show okI (parseGo 0 M).1 = true by have := HOK.out; rwa [HM.out.1] at this)
            have hMl : M.length ≤ s.length := by have := strip_len L; rw [HM.out.1] at this; omega
            have HVB := Lib.hid (show Below w.heap.size w V by rw [← hV]; exact (hbW.alloc (by omega) _))
            have HVQ := Lib.hid (show Blk V w1.heap.size 33 #[.string ⟨#[]⟩, .slice none 0 0, .bool true, .bool true] by rw [← hV]; exact Blk.new _ _ _)
            have HVR := Lib.hid (show Blk V w.heap.size 33 #[.string ⟨#[]⟩, .slice none 0 0, .bool false, .bool false] by rw [← hV]; exact B1.alloc _)
            have hVs : V.heap.size = w1.heap.size + 1 := by rw [← hV]; simp
            clear hM hV B1 hbW
            obtain ⟨q, hq⟩ : ∃ q, w1.heap.size = q := ⟨_, rfl⟩
            rw [hq] at HVQ hVs
            simp only [hq]
            have hwq : w.heap.size < q := by omega
            go_loopw [7, 8, 54] (fun lvv wv i wr => ∃ (k : Nat) (lv : Int) (word levels : List Int) (pv : Value), k ≤ M.length ∧ i = .int .i64 (k : Int) ∧ lvv = .int .i64 lv ∧ Hid (IntRow wr V.heap.size wv word) ∧ Hid (IntRow wr V.heap.size pv levels) ∧ Hid (∀ g, wv.ownBlock = some g → pv.ownBlock ≠ some g) ∧ Hid (Blk wr q 33 #[.string ⟨#[]⟩, pv, .bool true, .bool true]) ∧ Hid (Turn [q] V wr) ∧ Hid (word ++ (parseGo lv (M.drop k)).1 = (parseGo 0 M).1) ∧ Hid (levels ++ (parseGo lv (M.drop k)).2 = (parseGo 0 M).2) ∧ word.length ≤ k ∧ levels.length ≤ k) (fun _ _ i _ => M.length - (intOf i).toNat)
            case atStart => exact ⟨0, 0, [], [], .slice none 0 0, Nat.zero_le _, rfl, rfl, Lib.hid (IntRow.nil _ _), Lib.hid (IntRow.nil _ _), Lib.hid (fun g hg => by simp [Value.ownBlock] at hg), Lib.hid HVQ.out, Lib.hid ⟨rfl, rfl, rfl, Nat.le_refl _, fun _ _ _ => rfl⟩, Lib.hid rfl, Lib.hid rfl, Nat.zero_le _, Nat.zero_le _⟩
            case round =>
              obtain ⟨k, lv, word, levels, pv, hk, rfl, rfl, HW, HP, HNE, HBQ, HT, HW2, HL2, hwl, hll⟩ := hrel
              have hrs := HT.out.size
              have hqlt : q < wr.heap.size := by omega
              by_cases hlt : k < M.length
              · have hcell := (HT.out.cell (p := ⟨b, off + 1 + k, none⟩) (by show b < _; omega) (by simp; omega)).trans (show V.cell? ⟨b, off + 1 + k, none⟩ = some (.int .i64 (M.getD k 0)) by
                  rw [HMG.out k hlt, show off + 1 + k = off + (k + 1) from by omega]
                  exact HCL.out (k + 1) (by omega))
                have HDR := Lib.hid (drop_at hlt)
                obtain ⟨c, hc⟩ : ∃ c, M.getD k 0 = c := ⟨_, rfl⟩
                rw [hc] at hcell HDR
                clear hc
                by_cases h48 : 48 ≤ c
                · have d48 : decide (48 ≤ c) = true := by simp [h48]
                  by_cases h57 : c ≤ 57
                  · have d57 : decide (c ≤ 57) = true := by simp [h57]
                    go_wp2_with fail
                    exact ⟨⟨k + 1, c - 48, word, levels, pv, hlt, by go_num, rfl, HW, HP, HNE, HBQ, HT, Lib.hid (by rw [← HW2.out, HDR.out, parseGo_dig (by omega) (by omega)]), Lib.hid (by rw [← HL2.out, HDR.out, parseGo_dig (by omega) (by omega)]), by omega, by omega⟩, by simp [intOf]; omega⟩
                  · have d57 : decide (c ≤ 57) = false := by simp [h57]
                    have HNL := Lib.hid (fun (r : List Int) (lv : Int) => parseGo_let (c := c) (lv := lv) (r := r) (by omega))
                    go_wp2_with (first
                      | (at_builtin; refine wpList_append_own_at _ rfl _ _ 26 rfl V.heap.size 3 i0 (.int .i64 0) 1 8 Tryd.underlying26 hi hz0 hz1 hz2 rfl (by decide) _ word.length (word.map (Value.int .i64)) rfl (World.ownsRow.alloc HW.out _) ⟨wr.heap.size, 0, none⟩ 1 1 [.int .i64 c] rfl rfl (cell_one_new _ _ _) (by intro u hu; simp at hu; subst hu; rfl) (by unfold maxLen; omega) (by omega) (by simp; omega) ?_; intro wv2 w2 hown hg _ hat; obtain ⟨r1, r2, r3, r4, r5⟩ := row_app HP.out HNE.out hown rfl hg hat; have R1 := Lib.hid r1; have R2 := Lib.hid r2; have R3 := Lib.hid r3; have BQ2 := Lib.hid (HBQ.out.turn r4 (HW.out.notin (by omega))); have T2 := Lib.hid (turn_row HT.out HW.out r4); have c21 := BQ2.out.cell 1; simp at c21; clear r1 r2 r3 r4 hown hg hat)
                      | (at_builtin; refine wpList_append_own_at _ rfl _ _ 26 rfl V.heap.size 3 i0 (.int .i64 0) 1 8 Tryd.underlying26 hi hz0 hz1 hz2 rfl (by decide) pv levels.length (levels.map (Value.int .i64)) rfl (World.ownsRow.alloc R2.out _) ⟨w2.heap.size, 0, none⟩ 1 1 [.int .i64 lv] rfl rfl (cell_one_new _ _ _) (by intro u hu; simp at hu; subst hu; rfl) (by unfold maxLen; omega) (by omega) (by simp; omega) ?_; intro pv3 w3 hown hg _ hat; obtain ⟨s1, s2, s3, s4, s5⟩ := row_app R1.out (fun g hg hh => R3.out g hh hg) hown rfl hg hat; obtain ⟨pa3, pc3, hpe⟩ := row_slice s1; rw [show (levels ++ [lv]).length = levels.length + 1 from by simp] at hpe; subst hpe; have S1 := Lib.hid s1; have S2 := Lib.hid s2; have S3 := Lib.hid s3; have BQ3 := Lib.hid (BQ2.out.turn s4 (R2.out.notin (by omega))); have T3 := Lib.hid (turn_row T2.out R2.out s4); have c31 := BQ3.out.cell 1; have f31 := BQ3.out.frozen 1; simp at c31; clear s1 s2 s3 s4 hown hg hat))
                    have TS := Lib.hid ((Turn.refl [q] w3).setCell (p := ⟨q, 1, none⟩) (.inl (by simp)) (.slice pa3 (levels.length + 1) pc3))
                    exact ⟨⟨k + 1, 0, word ++ [c], levels ++ [lv], (.slice pa3 (levels.length + 1) pc3), hlt, by go_num, rfl, Lib.hid (row_turn S2.out TS.out (fun g hg hm => by have := S2.out.base g hg; simp at hm; omega)), Lib.hid (row_turn S1.out TS.out (fun g hg hm => by have := S1.out.base g hg; simp at hm; omega)), Lib.hid (fun g hg hh => S3.out g hh hg), Lib.hid (by have := BQ3.out.set_ 1 (.slice pa3 (levels.length + 1) pc3); simpa using this), Lib.hid (T3.out.setCell (.inl (by simp)) _), Lib.hid (by rw [← HW2.out, HDR.out, HNL.out, List.append_assoc]; rfl), Lib.hid (by rw [← HL2.out, HDR.out, HNL.out, List.append_assoc]; rfl), by simp; omega, by simp; omega⟩, by simp [intOf]; omega⟩
                · have d48 : decide (48 ≤ c) = false := by simp [h48]
                  have HNL := Lib.hid (fun (r : List Int) (lv : Int) => parseGo_let (c := c) (lv := lv) (r := r) (by omega))
                  go_wp2_with (first
                    | (at_builtin; refine wpList_append_own_at _ rfl _ _ 26 rfl V.heap.size 3 i0 (.int .i64 0) 1 8 Tryd.underlying26 hi hz0 hz1 hz2 rfl (by decide) _ word.length (word.map (Value.int .i64)) rfl (World.ownsRow.alloc HW.out _) ⟨wr.heap.size, 0, none⟩ 1 1 [.int .i64 c] rfl rfl (cell_one_new _ _ _) (by intro u hu; simp at hu; subst hu; rfl) (by unfold maxLen; omega) (by omega) (by simp; omega) ?_; intro wv2 w2 hown hg _ hat; obtain ⟨r1, r2, r3, r4, r5⟩ := row_app HP.out HNE.out hown rfl hg hat; have R1 := Lib.hid r1; have R2 := Lib.hid r2; have R3 := Lib.hid r3; have BQ2 := Lib.hid (HBQ.out.turn r4 (HW.out.notin (by omega))); have T2 := Lib.hid (turn_row HT.out HW.out r4); have c21 := BQ2.out.cell 1; simp at c21; clear r1 r2 r3 r4 hown hg hat)
                    | (at_builtin; refine wpList_append_own_at _ rfl _ _ 26 rfl V.heap.size 3 i0 (.int .i64 0) 1 8 Tryd.underlying26 hi hz0 hz1 hz2 rfl (by decide) pv levels.length (levels.map (Value.int .i64)) rfl (World.ownsRow.alloc R2.out _) ⟨w2.heap.size, 0, none⟩ 1 1 [.int .i64 lv] rfl rfl (cell_one_new _ _ _) (by intro u hu; simp at hu; subst hu; rfl) (by unfold maxLen; omega) (by omega) (by simp; omega) ?_; intro pv3 w3 hown hg _ hat; obtain ⟨s1, s2, s3, s4, s5⟩ := row_app R1.out (fun g hg hh => R3.out g hh hg) hown rfl hg hat; obtain ⟨pa3, pc3, hpe⟩ := row_slice s1; rw [show (levels ++ [lv]).length = levels.length + 1 from by simp] at hpe; subst hpe; have S1 := Lib.hid s1; have S2 := Lib.hid s2; have S3 := Lib.hid s3; have BQ3 := Lib.hid (BQ2.out.turn s4 (R2.out.notin (by omega))); have T3 := Lib.hid (turn_row T2.out R2.out s4); have c31 := BQ3.out.cell 1; have f31 := BQ3.out.frozen 1; simp at c31; clear s1 s2 s3 s4 hown hg hat))
                  have TS := Lib.hid ((Turn.refl [q] w3).setCell (p := ⟨q, 1, none⟩) (.inl (by simp)) (.slice pa3 (levels.length + 1) pc3))
                  exact ⟨⟨k + 1, 0, word ++ [c], levels ++ [lv], (.slice pa3 (levels.length + 1) pc3), hlt, by go_num, rfl, Lib.hid (row_turn S2.out TS.out (fun g hg hm => by have := S2.out.base g hg; simp at hm; omega)), Lib.hid (row_turn S1.out TS.out (fun g hg hm => by have := S1.out.base g hg; simp at hm; omega)), Lib.hid (fun g hg hh => S3.out g hh hg), Lib.hid (by have := BQ3.out.set_ 1 (.slice pa3 (levels.length + 1) pc3); simpa using this), Lib.hid (T3.out.setCell (.inl (by simp)) _), Lib.hid (by rw [← HW2.out, HDR.out, HNL.out, List.append_assoc]; rfl), Lib.hid (by rw [← HL2.out, HDR.out, HNL.out, List.append_assoc]; rfl), by simp; omega, by simp; omega⟩, by simp [intOf]; omega⟩
              · have hke : k = M.length := by omega
                have hnil : M.drop k = [] := by rw [hke]; exact List.drop_length
                have hW3 : word = (parseGo 0 M).1 := by have := HW2.out; rw [hnil] at this; simpa [parseGo] using this
                have hL3 : levels ++ [lv] = (parseGo 0 M).2 := by have := HL2.out; rw [hnil] at this; simpa [parseGo] using this
                have HPat2 := Lib.hid (show patOf L = ⟨encI word, levels ++ [lv], true, true⟩ by rw [HPat.out, hW3, hL3])
                have hok : okI word = true := by rw [hW3]; exact HOKM.out
                have HMK := Lib.hid (show makeP word = (encI word, 0) by unfold makeP; rw [hok]; rfl)
                have hel := encI_le word
                have d7 : decide (k < M.length) = false := by simp [hlt]
                obtain ⟨nc, tx, hpr⟩ : ∃ nc tx, printP (patOf L) = (nc, tx) := ⟨_, _, rfl⟩
                have HPR := Lib.hid hpr
                clear hpr
                have c11 := HBQ.out.cell 1
                simp at c11
                clear hW3 hL3 hok hnil
                go_wp2_with (first
                  | (at_builtin; refine wpList_append_own_at _ rfl _ _ 26 rfl V.heap.size 3 i0 (.int .i64 0) 1 8 Tryd.underlying26 hi hz0 hz1 hz2 rfl (by decide) pv levels.length (levels.map (Value.int .i64)) rfl (World.ownsRow.alloc HP.out _) ⟨wr.heap.size, 0, none⟩ 1 1 [.int .i64 lv] rfl rfl (cell_one_new _ _ _) (by intro u hu; simp at hu; subst hu; rfl) (by unfold maxLen; omega) (by omega) (by simp; omega) ?_; intro pv3 w3 hown hg _ hat; obtain ⟨s1, s2, s3, s4, s5⟩ := row_app HW.out (fun g hg hh => HNE.out g hh hg) hown rfl hg hat; obtain ⟨pa3, pc3, hpe⟩ := row_slice s1; rw [show (levels ++ [lv]).length = levels.length + 1 from by simp] at hpe; subst hpe; have S1 := Lib.hid s1; have S2 := Lib.hid s2; have BQ3 := Lib.hid (HBQ.out.turn s4 (HP.out.notin (by omega))); have T3 := Lib.hid (turn_row HT.out HP.out s4); have c31 := BQ3.out.cell 1; have f31 := BQ3.out.frozen 1; simp at c31; have TS := Lib.hid ((Turn.refl [q] w3).setCell (p := ⟨q, 1, none⟩) (.inl (by simp)) (.slice pa3 (levels.length + 1) pc3)); have S1' := Lib.hid (row_turn S1.out TS.out (fun g hg hm => by have := S1.out.base g hg; simp at hm; omega)); have S2' := Lib.hid (row_turn S2.out TS.out (fun g hg hm => by have := S2.out.base g hg; simp at hm; omega)); have BQ4 : Hid (Blk (w3.setCell ⟨q, 1, none⟩ (.slice pa3 (levels.length + 1) pc3)) q 33 #[.string ⟨#[]⟩, .slice pa3 (levels.length + 1) pc3, .bool true, .bool true]) := Lib.hid (by have := BQ3.out.set_ 1 (.slice pa3 (levels.length + 1) pc3); simpa using this); have T4 := Lib.hid (T3.out.setCell (p := ⟨q, 1, none⟩) (.inl (by simp)) (.slice pa3 (levels.length + 1) pc3)); clear s1 s2 s3 s4 hown hg hat)
                  | (go_at_call 41; refine (make_any _ word _ (by omega) (Ints.of_owns S2'.out)).mono ?_; rw [HMK.out]; rintro e w5 ⟨rfl, hb5⟩; have hs5 := hb5.size; have BQ5 := Lib.hid (BQ4.out.below hb5 BQ4.out.lt); have c50 := BQ5.out.cell 0; have f50 := BQ5.out.frozen 0; simp at c50; have BQ6 : Hid (Blk (w5.setCell ⟨q, 0, none⟩ (.string ⟨(encI word).toArray⟩)) q 33 #[.string ⟨(encI word).toArray⟩, .slice pa3 (levels.length + 1) pc3, .bool true, .bool true]) := Lib.hid (by have := BQ5.out.set_ 0 (.string ⟨(encI word).toArray⟩); simpa using this); obtain ⟨v0, v1, v2, v3⟩ := BQ6.out.four; have T6 := Lib.hid ((T4.out.below hb5 T4.out.size).setCell (p := ⟨q, 0, none⟩) (.inl (by simp)) (.string ⟨(encI word).toArray⟩)); have S6 := Lib.hid (row_turn (row_turn S1'.out (Turn.ofBelow (F := []) hb5 (Nat.le_refl _)) (fun _ _ => by simp)) ((Turn.refl [q] w5).setCell (p := ⟨q, 0, none⟩) (.inl (by simp)) (.string ⟨(encI word).toArray⟩)) (fun g hg hm => by have := row_base S1'.out g hg; simp at hm; omega)))
                  | (go_at_call 18; refine (print_any ⟨encI word, levels ++ [lv], true, true⟩ (.slice pa3 (levels.length + 1) pc3) (by show (encI word).length ≤ _; omega) (by show (levels ++ [lv]).length ≤ _; simp; omega) _ (Ints.of_owns S6.out)).mono ?_; unfold PrintPost; rw [← HPat2.out, HPR.out]; rintro e w7 ⟨rfl, hb7⟩; have BQ7 := Lib.hid (BQ6.out.below hb7 BQ6.out.lt); obtain ⟨x0, x1, x2, x3⟩ := BQ7.out.four; have BR := Lib.hid ((HVR.out.turn T6.out (by simp; omega)).below hb7 (by have := (HVR.out.turn T6.out (by simp; omega)).lt; exact this)); obtain ⟨y0, y1, y2, y3⟩ := BR.out.four; have f0 := BR.out.frozen 0; have f1 := BR.out.frozen 1; have f2 := BR.out.frozen 2; have f3 := BR.out.frozen 3; have HF := Lib.hid (HVB.out.trans ((T6.out.toBelow (fun i hi => by simp at hi; omega) (by omega)).trans (hb7.mono (by have := T6.out.size; omega)))); have S7 := Lib.hid (row_turn S6.out (Turn.ofBelow (F := []) hb7 (Nat.le_refl _)) (fun _ _ => by simp))))
                all_goals
                  first
                    | (have hn : nc = 0 := by assumption
                       have ht : (!tx == s) = false := by assumption
                       have ht2 : tx = s := by simpa using ht
                       obtain ⟨c0, c1, c2, c3⟩ := (BR.out.store4 (.string ⟨(encI word).toArray⟩) (.slice pa3 (levels.length + 1) pc3) (.bool true) (.bool true)).four
                       have S8 := row_turn S7.out (turn_store4 w7 w.heap.size (.string ⟨(encI word).toArray⟩) (.slice pa3 (levels.length + 1) pc3) (.bool true) (.bool true)) (fun g hg hm => by have := row_base S7.out g hg; simp at hm; omega)
                       have hp := parsePost (s := s) (n := 0) (P := patOf L) (pv := .slice pa3 (levels.length + 1) pc3) (HPo.out (by rw [HPR.out, hn, ht2])) (below_store4 HF.out (Nat.le_refl _) (.string ⟨(encI word).toArray⟩) (.slice pa3 (levels.length + 1) pc3) (.bool true) (.bool true)) (by rw [HPat2.out]; exact IntRow.weak S8 (by omega))
                       rw [HPat2.out] at hp
                       exact bodyPost_ret (v := .tuple #[patV ⟨encI word, levels ++ [lv], true, true⟩ (.slice pa3 (levels.length + 1) pc3), .int .i64 0]) (by simp [results, Tryd.results20, go_sem, patV, c0, c1, c2, c3]) rfl hp)
                    | (have hno : printP (patOf L) ≠ (0, s) := by
                         rw [HPR.out]
                         intro e
                         injection e with e1 e2
                         first
                           | exact absurd e1 (by assumption)
                           | (have ht : (!tx == s) = true := by assumption
                              rw [e2] at ht
                              simp at ht)
                       obtain ⟨c0, c1, c2, c3⟩ := (BR.out.store4 (.string ⟨#[]⟩) (.slice none 0 0) (.bool false) (.bool false)).four
                       exact bodyPost_ret (v := .tuple #[zeroPV, .int .i64 14]) (by simp [results, Tryd.results20, go_sem, zeroPV, c0, c1, c2, c3]) rfl (parsePost_no (n := 14) (HPn.out hno) (below_store4 HF.out (Nat.le_refl _) _ _ _ _)))
          · have e1 : (y == 46) = false := by simp [hy46]
            go_enter Tryd.func20, Tryd.ntmps20
            go_wp2_with (first
              | (go_at_call 38; refine (HPt.out _).mono ?_; rintro e w1 ⟨ao, cap, rfl, hb1, hrow⟩; have hbW := ((Below.refl w.heap.size w).alloc (Nat.le_refl _) (.cells #[.string ⟨#[]⟩, .slice none 0 0, .bool false, .bool false] 33)).trans (hb1.mono (by simp)); have hw1 := hb1.size; simp at hw1; have B1 := (Blk.new w 33 #[.string ⟨#[]⟩, .slice none 0 0, .bool false, .bool false]).below hb1 (by simp); obtain ⟨b, off, rfl, hblt, hcl, hlc, hcm⟩ := ints_pos (Ints.of_owns hrow.out) hpos; have hcA : ∀ (o : Obj) j, j < L.length → (w1.alloc o).cell? ⟨b, off + j, none⟩ = some (.int .i64 (L.getD j 0)) := fun o j hj => (World.cell?_of_block (a := ⟨b, off + j, none⟩) (Below.heap_alloc w1 _ b hblt)).trans (hcl j hj); have HCL := Lib.hid hcA; have hc0 := hcA (.cells #[.string ⟨#[]⟩, .slice none 0 0, .bool false, .bool false] 33) 0 hpos; rw [HX.out, Nat.add_zero] at hc0; have hcY := hcA (.cells #[.string ⟨#[]⟩, .slice none 0 0, .bool true, .bool false] 33) (L.length - 1) (by omega); rw [HY.out] at hcY; clear hcl hcA; have HQ := Lib.hid (Blk.new w1 33 #[.string ⟨#[]⟩, .slice none 0 0, .bool false, .bool false]); have HQ2 := Lib.hid (Blk.new w1 33 #[.string ⟨#[]⟩, .slice none 0 0, .bool true, .bool false]); have g2 := HQ.out.frozen 2; have g3 := HQ2.out.frozen 3; obtain ⟨q0, q1, q2, q3⟩ := HQ.out.four; obtain ⟨p0, p1, p2, p3⟩ := HQ2.out.four; have z2 : (L.length : Int) ≤ (cap : Int) := (by omega); have hcY2 : (w1.alloc (.cells #[.string ⟨#[]⟩, .slice none 0 0, .bool true, .bool false] 33)).cell? ⟨b, off + 1 + (L.length - 1 - 1), none⟩ = some (.int .i64 y) := (by rw [show off + 1 + (L.length - 1 - 1) = off + (L.length - 1) from by omega]; exact hcY)))
            apply region_one
            · go_region_law (fail)
              all_goals exact ⟨rfl, rfl⟩
            go_wp2_with fail
            obtain ⟨V, hV⟩ : ∃ V, w1.alloc (.cells #[.string ⟨#[]⟩, .slice none 0 0, .bool true, .bool false] 33) = V := ⟨_, rfl⟩
            have HCV := HCL.out (.cells #[.string ⟨#[]⟩, .slice none 0 0, .bool true, .bool false] 33)
            rw [hV] at HCV
            simp only [hV]
            have HCL := Lib.hid HCV
            clear HCV
            obtain ⟨M, hMd, hMn⟩ : ∃ M, L.tail = M ∧ M.length = L.length - 1 := ⟨L.tail, rfl, by simp; try omega⟩
            have hM : stripE (stripB L) = M ∧ hasB L = true ∧ hasE (stripB L) = false := by
              rw [← hMd]
              exact strip_bf HX.out HY.out (by omega) hx46 hy46
            have hMg : ∀ j, j < M.length → M.getD j 0 = L.getD (j + 1) 0 := fun j hj => by rw [← hMd] at hj ⊢; exact strip_get_t L j
            have HMG := Lib.hid hMg
            clear hMg hMd
            have HM := Lib.hid (show stripE (stripB L) = M ∧ hasB L = true ∧ hasE (stripB L) = false from hM)
            have HPat := Lib.hid (show patOf L = ⟨encI (parseGo 0 M).1, (parseGo 0 M).2, true, false⟩ by unfold patOf; rw [HM.out.1, HM.out.2.1, HM.out.2.2])
            have HOKM := Lib.hid (show okI (parseGo 0 M).1 = true by have := HOK.out; rwa [HM.out.1] at this)
            have hMl : M.length ≤ s.length := by have := strip_len L; rw [HM.out.1] at this; omega
            have HVB := Lib.hid (show Below w.heap.size w V by rw [← hV]; exact (hbW.alloc (by omega) _))
            have HVQ := Lib.hid (show Blk V w1.heap.size 33 #[.string ⟨#[]⟩, .slice none 0 0, .bool true, .bool false] by rw [← hV]; exact Blk.new _ _ _)
            have HVR := Lib.hid (show Blk V w.heap.size 33 #[.string ⟨#[]⟩, .slice none 0 0, .bool false, .bool false] by rw [← hV]; exact B1.alloc _)
            have hVs : V.heap.size = w1.heap.size + 1 := by rw [← hV]; simp
            clear hM hV B1 hbW
            obtain ⟨q, hq⟩ : ∃ q, w1.heap.size = q := ⟨_, rfl⟩
            rw [hq] at HVQ hVs
            simp only [hq]
            have hwq : w.heap.size < q := by omega
            go_loopw [7, 8, 54] (fun lvv wv i wr => ∃ (k : Nat) (lv : Int) (word levels : List Int) (pv : Value), k ≤ M.length ∧ i = .int .i64 (k : Int) ∧ lvv = .int .i64 lv ∧ Hid (IntRow wr V.heap.size wv word) ∧ Hid (IntRow wr V.heap.size pv levels) ∧ Hid (∀ g, wv.ownBlock = some g → pv.ownBlock ≠ some g) ∧ Hid (Blk wr q 33 #[.string ⟨#[]⟩, pv, .bool true, .bool false]) ∧ Hid (Turn [q] V wr) ∧ Hid (word ++ (parseGo lv (M.drop k)).1 = (parseGo 0 M).1) ∧ Hid (levels ++ (parseGo lv (M.drop k)).2 = (parseGo 0 M).2) ∧ word.length ≤ k ∧ levels.length ≤ k) (fun _ _ i _ => M.length - (intOf i).toNat)
            case atStart => exact ⟨0, 0, [], [], .slice none 0 0, Nat.zero_le _, rfl, rfl, Lib.hid (IntRow.nil _ _), Lib.hid (IntRow.nil _ _), Lib.hid (fun g hg => by simp [Value.ownBlock] at hg), Lib.hid HVQ.out, Lib.hid ⟨rfl, rfl, rfl, Nat.le_refl _, fun _ _ _ => rfl⟩, Lib.hid rfl, Lib.hid rfl, Nat.zero_le _, Nat.zero_le _⟩
            case round =>
              obtain ⟨k, lv, word, levels, pv, hk, rfl, rfl, HW, HP, HNE, HBQ, HT, HW2, HL2, hwl, hll⟩ := hrel
              have hrs := HT.out.size
              have hqlt : q < wr.heap.size := by omega
              by_cases hlt : k < M.length
              · have hcell := (HT.out.cell (p := ⟨b, off + 1 + k, none⟩) (by show b < _; omega) (by simp; omega)).trans (show V.cell? ⟨b, off + 1 + k, none⟩ = some (.int .i64 (M.getD k 0)) by
                  rw [HMG.out k hlt, show off + 1 + k = off + (k + 1) from by omega]
                  exact HCL.out (k + 1) (by omega))
                have HDR := Lib.hid (drop_at hlt)
                obtain ⟨c, hc⟩ : ∃ c, M.getD k 0 = c := ⟨_, rfl⟩
                rw [hc] at hcell HDR
                clear hc
                by_cases h48 : 48 ≤ c
                · have d48 : decide (48 ≤ c) = true := by simp [h48]
                  by_cases h57 : c ≤ 57
                  · have d57 : decide (c ≤ 57) = true := by simp [h57]
                    go_wp2_with fail
                    exact ⟨⟨k + 1, c - 48, word, levels, pv, hlt, by go_num, rfl, HW, HP, HNE, HBQ, HT, Lib.hid (by rw [← HW2.out, HDR.out, parseGo_dig (by omega) (by omega)]), Lib.hid (by rw [← HL2.out, HDR.out, parseGo_dig (by omega) (by omega)]), by omega, by omega⟩, by simp [intOf]; omega⟩
                  · have d57 : decide (c ≤ 57) = false := by simp [h57]
                    have HNL := Lib.hid (fun (r : List Int) (lv : Int) => parseGo_let (c := c) (lv := lv) (r := r) (by omega))
                    go_wp2_with (first
                      | (at_builtin; refine wpList_append_own_at _ rfl _ _ 26 rfl V.heap.size 3 i0 (.int .i64 0) 1 8 Tryd.underlying26 hi hz0 hz1 hz2 rfl (by decide) _ word.length (word.map (Value.int .i64)) rfl (World.ownsRow.alloc HW.out _) ⟨wr.heap.size, 0, none⟩ 1 1 [.int .i64 c] rfl rfl (cell_one_new _ _ _) (by intro u hu; simp at hu; subst hu; rfl) (by unfold maxLen; omega) (by omega) (by simp; omega) ?_; intro wv2 w2 hown hg _ hat; obtain ⟨r1, r2, r3, r4, r5⟩ := row_app HP.out HNE.out hown rfl hg hat; have R1 := Lib.hid r1; have R2 := Lib.hid r2; have R3 := Lib.hid r3; have BQ2 := Lib.hid (HBQ.out.turn r4 (HW.out.notin (by omega))); have T2 := Lib.hid (turn_row HT.out HW.out r4); have c21 := BQ2.out.cell 1; simp at c21; clear r1 r2 r3 r4 hown hg hat)
                      | (at_builtin; refine wpList_append_own_at _ rfl _ _ 26 rfl V.heap.size 3 i0 (.int .i64 0) 1 8 Tryd.underlying26 hi hz0 hz1 hz2 rfl (by decide) pv levels.length (levels.map (Value.int .i64)) rfl (World.ownsRow.alloc R2.out _) ⟨w2.heap.size, 0, none⟩ 1 1 [.int .i64 lv] rfl rfl (cell_one_new _ _ _) (by intro u hu; simp at hu; subst hu; rfl) (by unfold maxLen; omega) (by omega) (by simp; omega) ?_; intro pv3 w3 hown hg _ hat; obtain ⟨s1, s2, s3, s4, s5⟩ := row_app R1.out (fun g hg hh => R3.out g hh hg) hown rfl hg hat; obtain ⟨pa3, pc3, hpe⟩ := row_slice s1; rw [show (levels ++ [lv]).length = levels.length + 1 from by simp] at hpe; subst hpe; have S1 := Lib.hid s1; have S2 := Lib.hid s2; have S3 := Lib.hid s3; have BQ3 := Lib.hid (BQ2.out.turn s4 (R2.out.notin (by omega))); have T3 := Lib.hid (turn_row T2.out R2.out s4); have c31 := BQ3.out.cell 1; have f31 := BQ3.out.frozen 1; simp at c31; clear s1 s2 s3 s4 hown hg hat))
                    have TS := Lib.hid ((Turn.refl [q] w3).setCell (p := ⟨q, 1, none⟩) (.inl (by simp)) (.slice pa3 (levels.length + 1) pc3))
                    exact ⟨⟨k + 1, 0, word ++ [c], levels ++ [lv], (.slice pa3 (levels.length + 1) pc3), hlt, by go_num, rfl, Lib.hid (row_turn S2.out TS.out (fun g hg hm => by have := S2.out.base g hg; simp at hm; omega)), Lib.hid (row_turn S1.out TS.out (fun g hg hm => by have := S1.out.base g hg; simp at hm; omega)), Lib.hid (fun g hg hh => S3.out g hh hg), Lib.hid (by have := BQ3.out.set_ 1 (.slice pa3 (levels.length + 1) pc3); simpa using this), Lib.hid (T3.out.setCell (.inl (by simp)) _), Lib.hid (by rw [← HW2.out, HDR.out, HNL.out, List.append_assoc]; rfl), Lib.hid (by rw [← HL2.out, HDR.out, HNL.out, List.append_assoc]; rfl), by simp; omega, by simp; omega⟩, by simp [intOf]; omega⟩
                · have d48 : decide (48 ≤ c) = false := by simp [h48]
                  have HNL := Lib.hid (fun (r : List Int) (lv : Int) => parseGo_let (c := c) (lv := lv) (r := r) (by omega))
                  go_wp2_with (first
                    | (at_builtin; refine wpList_append_own_at _ rfl _ _ 26 rfl V.heap.size 3 i0 (.int .i64 0) 1 8 Tryd.underlying26 hi hz0 hz1 hz2 rfl (by decide) _ word.length (word.map (Value.int .i64)) rfl (World.ownsRow.alloc HW.out _) ⟨wr.heap.size, 0, none⟩ 1 1 [.int .i64 c] rfl rfl (cell_one_new _ _ _) (by intro u hu; simp at hu; subst hu; rfl) (by unfold maxLen; omega) (by omega) (by simp; omega) ?_; intro wv2 w2 hown hg _ hat; obtain ⟨r1, r2, r3, r4, r5⟩ := row_app HP.out HNE.out hown rfl hg hat; have R1 := Lib.hid r1; have R2 := Lib.hid r2; have R3 := Lib.hid r3; have BQ2 := Lib.hid (HBQ.out.turn r4 (HW.out.notin (by omega))); have T2 := Lib.hid (turn_row HT.out HW.out r4); have c21 := BQ2.out.cell 1; simp at c21; clear r1 r2 r3 r4 hown hg hat)
                    | (at_builtin; refine wpList_append_own_at _ rfl _ _ 26 rfl V.heap.size 3 i0 (.int .i64 0) 1 8 Tryd.underlying26 hi hz0 hz1 hz2 rfl (by decide) pv levels.length (levels.map (Value.int .i64)) rfl (World.ownsRow.alloc R2.out _) ⟨w2.heap.size, 0, none⟩ 1 1 [.int .i64 lv] rfl rfl (cell_one_new _ _ _) (by intro u hu; simp at hu; subst hu; rfl) (by unfold maxLen; omega) (by omega) (by simp; omega) ?_; intro pv3 w3 hown hg _ hat; obtain ⟨s1, s2, s3, s4, s5⟩ := row_app R1.out (fun g hg hh => R3.out g hh hg) hown rfl hg hat; obtain ⟨pa3, pc3, hpe⟩ := row_slice s1; rw [show (levels ++ [lv]).length = levels.length + 1 from by simp] at hpe; subst hpe; have S1 := Lib.hid s1; have S2 := Lib.hid s2; have S3 := Lib.hid s3; have BQ3 := Lib.hid (BQ2.out.turn s4 (R2.out.notin (by omega))); have T3 := Lib.hid (turn_row T2.out R2.out s4); have c31 := BQ3.out.cell 1; have f31 := BQ3.out.frozen 1; simp at c31; clear s1 s2 s3 s4 hown hg hat))
                  have TS := Lib.hid ((Turn.refl [q] w3).setCell (p := ⟨q, 1, none⟩) (.inl (by simp)) (.slice pa3 (levels.length + 1) pc3))
                  exact ⟨⟨k + 1, 0, word ++ [c], levels ++ [lv], (.slice pa3 (levels.length + 1) pc3), hlt, by go_num, rfl, Lib.hid (row_turn S2.out TS.out (fun g hg hm => by have := S2.out.base g hg; simp at hm; omega)), Lib.hid (row_turn S1.out TS.out (fun g hg hm => by have := S1.out.base g hg; simp at hm; omega)), Lib.hid (fun g hg hh => S3.out g hh hg), Lib.hid (by have := BQ3.out.set_ 1 (.slice pa3 (levels.length + 1) pc3); simpa using this), Lib.hid (T3.out.setCell (.inl (by simp)) _), Lib.hid (by rw [← HW2.out, HDR.out, HNL.out, List.append_assoc]; rfl), Lib.hid (by rw [← HL2.out, HDR.out, HNL.out, List.append_assoc]; rfl), by simp; omega, by simp; omega⟩, by simp [intOf]; omega⟩
              · have hke : k = M.length := by omega
                have hnil : M.drop k = [] := by rw [hke]; exact List.drop_length
                have hW3 : word = (parseGo 0 M).1 := by have := HW2.out; rw [hnil] at this; simpa [parseGo] using this
                have hL3 : levels ++ [lv] = (parseGo 0 M).2 := by have := HL2.out; rw [hnil] at this; simpa [parseGo] using this
                have HPat2 := Lib.hid (show patOf L = ⟨encI word, levels ++ [lv], true, false⟩ by rw [HPat.out, hW3, hL3])
                have hok : okI word = true := by rw [hW3]; exact HOKM.out
                have HMK := Lib.hid (show makeP word = (encI word, 0) by unfold makeP; rw [hok]; rfl)
                have hel := encI_le word
                have d7 : decide (k < M.length) = false := by simp [hlt]
                obtain ⟨nc, tx, hpr⟩ : ∃ nc tx, printP (patOf L) = (nc, tx) := ⟨_, _, rfl⟩
                have HPR := Lib.hid hpr
                clear hpr
                have c11 := HBQ.out.cell 1
                simp at c11
                clear hW3 hL3 hok hnil
                go_wp2_with (first
                  | (at_builtin; refine wpList_append_own_at _ rfl _ _ 26 rfl V.heap.size 3 i0 (.int .i64 0) 1 8 Tryd.underlying26 hi hz0 hz1 hz2 rfl (by decide) pv levels.length (levels.map (Value.int .i64)) rfl (World.ownsRow.alloc HP.out _) ⟨wr.heap.size, 0, none⟩ 1 1 [.int .i64 lv] rfl rfl (cell_one_new _ _ _) (by intro u hu; simp at hu; subst hu; rfl) (by unfold maxLen; omega) (by omega) (by simp; omega) ?_; intro pv3 w3 hown hg _ hat; obtain ⟨s1, s2, s3, s4, s5⟩ := row_app HW.out (fun g hg hh => HNE.out g hh hg) hown rfl hg hat; obtain ⟨pa3, pc3, hpe⟩ := row_slice s1; rw [show (levels ++ [lv]).length = levels.length + 1 from by simp] at hpe; subst hpe; have S1 := Lib.hid s1; have S2 := Lib.hid s2; have BQ3 := Lib.hid (HBQ.out.turn s4 (HP.out.notin (by omega))); have T3 := Lib.hid (turn_row HT.out HP.out s4); have c31 := BQ3.out.cell 1; have f31 := BQ3.out.frozen 1; simp at c31; have TS := Lib.hid ((Turn.refl [q] w3).setCell (p := ⟨q, 1, none⟩) (.inl (by simp)) (.slice pa3 (levels.length + 1) pc3)); have S1' := Lib.hid (row_turn S1.out TS.out (fun g hg hm => by have := S1.out.base g hg; simp at hm; omega)); have S2' := Lib.hid (row_turn S2.out TS.out (fun g hg hm => by have := S2.out.base g hg; simp at hm; omega)); have BQ4 : Hid (Blk (w3.setCell ⟨q, 1, none⟩ (.slice pa3 (levels.length + 1) pc3)) q 33 #[.string ⟨#[]⟩, .slice pa3 (levels.length + 1) pc3, .bool true, .bool false]) := Lib.hid (by have := BQ3.out.set_ 1 (.slice pa3 (levels.length + 1) pc3); simpa using this); have T4 := Lib.hid (T3.out.setCell (p := ⟨q, 1, none⟩) (.inl (by simp)) (.slice pa3 (levels.length + 1) pc3)); clear s1 s2 s3 s4 hown hg hat)
                  | (go_at_call 41; refine (make_any _ word _ (by omega) (Ints.of_owns S2'.out)).mono ?_; rw [HMK.out]; rintro e w5 ⟨rfl, hb5⟩; have hs5 := hb5.size; have BQ5 := Lib.hid (BQ4.out.below hb5 BQ4.out.lt); have c50 := BQ5.out.cell 0; have f50 := BQ5.out.frozen 0; simp at c50; have BQ6 : Hid (Blk (w5.setCell ⟨q, 0, none⟩ (.string ⟨(encI word).toArray⟩)) q 33 #[.string ⟨(encI word).toArray⟩, .slice pa3 (levels.length + 1) pc3, .bool true, .bool false]) := Lib.hid (by have := BQ5.out.set_ 0 (.string ⟨(encI word).toArray⟩); simpa using this); obtain ⟨v0, v1, v2, v3⟩ := BQ6.out.four; have T6 := Lib.hid ((T4.out.below hb5 T4.out.size).setCell (p := ⟨q, 0, none⟩) (.inl (by simp)) (.string ⟨(encI word).toArray⟩)); have S6 := Lib.hid (row_turn (row_turn S1'.out (Turn.ofBelow (F := []) hb5 (Nat.le_refl _)) (fun _ _ => by simp)) ((Turn.refl [q] w5).setCell (p := ⟨q, 0, none⟩) (.inl (by simp)) (.string ⟨(encI word).toArray⟩)) (fun g hg hm => by have := row_base S1'.out g hg; simp at hm; omega)))
                  | (go_at_call 18; refine (print_any ⟨encI word, levels ++ [lv], true, false⟩ (.slice pa3 (levels.length + 1) pc3) (by show (encI word).length ≤ _; omega) (by show (levels ++ [lv]).length ≤ _; simp; omega) _ (Ints.of_owns S6.out)).mono ?_; unfold PrintPost; rw [← HPat2.out, HPR.out]; rintro e w7 ⟨rfl, hb7⟩; have BQ7 := Lib.hid (BQ6.out.below hb7 BQ6.out.lt); obtain ⟨x0, x1, x2, x3⟩ := BQ7.out.four; have BR := Lib.hid ((HVR.out.turn T6.out (by simp; omega)).below hb7 (by have := (HVR.out.turn T6.out (by simp; omega)).lt; exact this)); obtain ⟨y0, y1, y2, y3⟩ := BR.out.four; have f0 := BR.out.frozen 0; have f1 := BR.out.frozen 1; have f2 := BR.out.frozen 2; have f3 := BR.out.frozen 3; have HF := Lib.hid (HVB.out.trans ((T6.out.toBelow (fun i hi => by simp at hi; omega) (by omega)).trans (hb7.mono (by have := T6.out.size; omega)))); have S7 := Lib.hid (row_turn S6.out (Turn.ofBelow (F := []) hb7 (Nat.le_refl _)) (fun _ _ => by simp))))
                all_goals
                  first
                    | (have hn : nc = 0 := by assumption
                       have ht : (!tx == s) = false := by assumption
                       have ht2 : tx = s := by simpa using ht
                       obtain ⟨c0, c1, c2, c3⟩ := (BR.out.store4 (.string ⟨(encI word).toArray⟩) (.slice pa3 (levels.length + 1) pc3) (.bool true) (.bool false)).four
                       have S8 := row_turn S7.out (turn_store4 w7 w.heap.size (.string ⟨(encI word).toArray⟩) (.slice pa3 (levels.length + 1) pc3) (.bool true) (.bool false)) (fun g hg hm => by have := row_base S7.out g hg; simp at hm; omega)
                       have hp := parsePost (s := s) (n := 0) (P := patOf L) (pv := .slice pa3 (levels.length + 1) pc3) (HPo.out (by rw [HPR.out, hn, ht2])) (below_store4 HF.out (Nat.le_refl _) (.string ⟨(encI word).toArray⟩) (.slice pa3 (levels.length + 1) pc3) (.bool true) (.bool false)) (by rw [HPat2.out]; exact IntRow.weak S8 (by omega))
                       rw [HPat2.out] at hp
                       exact bodyPost_ret (v := .tuple #[patV ⟨encI word, levels ++ [lv], true, false⟩ (.slice pa3 (levels.length + 1) pc3), .int .i64 0]) (by simp [results, Tryd.results20, go_sem, patV, c0, c1, c2, c3]) rfl hp)
                    | (have hno : printP (patOf L) ≠ (0, s) := by
                         rw [HPR.out]
                         intro e
                         injection e with e1 e2
                         first
                           | exact absurd e1 (by assumption)
                           | (have ht : (!tx == s) = true := by assumption
                              rw [e2] at ht
                              simp at ht)
                       obtain ⟨c0, c1, c2, c3⟩ := (BR.out.store4 (.string ⟨#[]⟩) (.slice none 0 0) (.bool false) (.bool false)).four
                       exact bodyPost_ret (v := .tuple #[zeroPV, .int .i64 14]) (by simp [results, Tryd.results20, go_sem, zeroPV, c0, c1, c2, c3]) rfl (parsePost_no (n := 14) (HPn.out hno) (below_store4 HF.out (Nat.le_refl _) _ _ _ _)))
      · have e0 : (x == 46) = false := by simp [hx46]
        by_cases hy46 : y = 46
        · have e1 : (y == 46) = true := by simp [hy46]
          go_enter Tryd.func20, Tryd.ntmps20
          go_wp2_with (first
            | (go_at_call 38; refine (HPt.out _).mono ?_; rintro e w1 ⟨ao, cap, rfl, hb1, hrow⟩; have hbW := ((Below.refl w.heap.size w).alloc (Nat.le_refl _) (.cells #[.string ⟨#[]⟩, .slice none 0 0, .bool false, .bool false] 33)).trans (hb1.mono (by simp)); have hw1 := hb1.size; simp at hw1; have B1 := (Blk.new w 33 #[.string ⟨#[]⟩, .slice none 0 0, .bool false, .bool false]).below hb1 (by simp); obtain ⟨b, off, rfl, hblt, hcl, hlc, hcm⟩ := ints_pos (Ints.of_owns hrow.out) hpos; have hcA : ∀ (o : Obj) j, j < L.length → (w1.alloc o).cell? ⟨b, off + j, none⟩ = some (.int .i64 (L.getD j 0)) := fun o j hj => (World.cell?_of_block (a := ⟨b, off + j, none⟩) (Below.heap_alloc w1 _ b hblt)).trans (hcl j hj); have HCL := Lib.hid hcA; have hc0 := hcA (.cells #[.string ⟨#[]⟩, .slice none 0 0, .bool false, .bool false] 33) 0 hpos; rw [HX.out, Nat.add_zero] at hc0; have hcY := hcA (.cells #[.string ⟨#[]⟩, .slice none 0 0, .bool false, .bool false] 33) (L.length - 1) (by omega); rw [HY.out] at hcY; clear hcl hcA; have HQ := Lib.hid (Blk.new w1 33 #[.string ⟨#[]⟩, .slice none 0 0, .bool false, .bool false]); have HQ2 := Lib.hid (Blk.new w1 33 #[.string ⟨#[]⟩, .slice none 0 0, .bool false, .bool false]); have g2 := HQ.out.frozen 2; have g3 := HQ2.out.frozen 3; obtain ⟨q0, q1, q2, q3⟩ := HQ.out.four; obtain ⟨p0, p1, p2, p3⟩ := HQ2.out.four; have z2 : (L.length : Int) ≤ (cap : Int) := (by omega)))
          have zh0 : (1 : Int) ≤ ((L.length : Nat) : Int) := by omega
          have zh1 : (0 : Int) ≤ ((L.length : Nat) : Int) - 1 := by omega
          have zh2 : ((L.length : Nat) : Int) - 1 ≤ ((cap : Nat) : Int) := by omega
          have zh3 : (((L.length : Nat) : Int) - 1).toNat = L.length - 1 := by omega
          have zw : IntKind.i64.wrap (((L.length : Nat) : Int) - 1) = ((L.length : Nat) : Int) - 1 := IntWalk.i64_in _ (by omega)
          apply region_one
          · go_region_law (fail)
            all_goals exact ⟨rfl, rfl⟩
          go_wp2_with fail
          obtain ⟨V, hV⟩ : ∃ V, w1.alloc (.cells #[.string ⟨#[]⟩, .slice none 0 0, .bool false, .bool true] 33) = V := ⟨_, rfl⟩
          have HCV := HCL.out (.cells #[.string ⟨#[]⟩, .slice none 0 0, .bool false, .bool true] 33)
          rw [hV] at HCV
          simp only [hV]
          have HCL := Lib.hid HCV
          clear HCV
          obtain ⟨M, hMd, hMn⟩ : ∃ M, L.dropLast = M ∧ M.length = L.length - 1 := ⟨L.dropLast, rfl, by simp; try omega⟩
          have hM : stripE (stripB L) = M ∧ hasB L = false ∧ hasE (stripB L) = true := by
            rw [← hMd]
            exact strip_nt HX.out HY.out hpos hx46 hy46
          have hMg : ∀ j, j < M.length → M.getD j 0 = L.getD (j + 0) 0 := fun j hj => by rw [← hMd] at hj ⊢; exact strip_get_d L j hj
          have HMG := Lib.hid hMg
          clear hMg hMd
          have HM := Lib.hid (show stripE (stripB L) = M ∧ hasB L = false ∧ hasE (stripB L) = true from hM)
          have HPat := Lib.hid (show patOf L = ⟨encI (parseGo 0 M).1, (parseGo 0 M).2, false, true⟩ by unfold patOf; rw [HM.out.1, HM.out.2.1, HM.out.2.2])
          have HOKM := Lib.hid (show okI (parseGo 0 M).1 = true by have := HOK.out; rwa [HM.out.1] at this)
          have hMl : M.length ≤ s.length := by have := strip_len L; rw [HM.out.1] at this; omega
          have HVB := Lib.hid (show Below w.heap.size w V by rw [← hV]; exact (hbW.alloc (by omega) _))
          have HVQ := Lib.hid (show Blk V w1.heap.size 33 #[.string ⟨#[]⟩, .slice none 0 0, .bool false, .bool true] by rw [← hV]; exact Blk.new _ _ _)
          have HVR := Lib.hid (show Blk V w.heap.size 33 #[.string ⟨#[]⟩, .slice none 0 0, .bool false, .bool false] by rw [← hV]; exact B1.alloc _)
          have hVs : V.heap.size = w1.heap.size + 1 := by rw [← hV]; simp
          clear hM hV B1 hbW
          obtain ⟨q, hq⟩ : ∃ q, w1.heap.size = q := ⟨_, rfl⟩
          rw [hq] at HVQ hVs
          simp only [hq]
          have hwq : w.heap.size < q := by omega
          go_loopw [7, 8, 54] (fun lvv wv i wr => ∃ (k : Nat) (lv : Int) (word levels : List Int) (pv : Value), k ≤ M.length ∧ i = .int .i64 (k : Int) ∧ lvv = .int .i64 lv ∧ Hid (IntRow wr V.heap.size wv word) ∧ Hid (IntRow wr V.heap.size pv levels) ∧ Hid (∀ g, wv.ownBlock = some g → pv.ownBlock ≠ some g) ∧ Hid (Blk wr q 33 #[.string ⟨#[]⟩, pv, .bool false, .bool true]) ∧ Hid (Turn [q] V wr) ∧ Hid (word ++ (parseGo lv (M.drop k)).1 = (parseGo 0 M).1) ∧ Hid (levels ++ (parseGo lv (M.drop k)).2 = (parseGo 0 M).2) ∧ word.length ≤ k ∧ levels.length ≤ k) (fun _ _ i _ => M.length - (intOf i).toNat)
          case atStart => exact ⟨0, 0, [], [], .slice none 0 0, Nat.zero_le _, rfl, rfl, Lib.hid (IntRow.nil _ _), Lib.hid (IntRow.nil _ _), Lib.hid (fun g hg => by simp [Value.ownBlock] at hg), Lib.hid HVQ.out, Lib.hid ⟨rfl, rfl, rfl, Nat.le_refl _, fun _ _ _ => rfl⟩, Lib.hid rfl, Lib.hid rfl, Nat.zero_le _, Nat.zero_le _⟩
          case round =>
            obtain ⟨k, lv, word, levels, pv, hk, rfl, rfl, HW, HP, HNE, HBQ, HT, HW2, HL2, hwl, hll⟩ := hrel
            have hrs := HT.out.size
            have hqlt : q < wr.heap.size := by omega
            by_cases hlt : k < M.length
            · have hcell := (HT.out.cell (p := ⟨b, off + k, none⟩) (by show b < _; omega) (by simp; omega)).trans (show V.cell? ⟨b, off + k, none⟩ = some (.int .i64 (M.getD k 0)) by
                rw [HMG.out k hlt, show off + k = off + (k + 0) from by omega]
                exact HCL.out (k + 0) (by omega))
              have HDR := Lib.hid (drop_at hlt)
              obtain ⟨c, hc⟩ : ∃ c, M.getD k 0 = c := ⟨_, rfl⟩
              rw [hc] at hcell HDR
              clear hc
              by_cases h48 : 48 ≤ c
              · have d48 : decide (48 ≤ c) = true := by simp [h48]
                by_cases h57 : c ≤ 57
                · have d57 : decide (c ≤ 57) = true := by simp [h57]
                  go_wp2_with fail
                  exact ⟨⟨k + 1, c - 48, word, levels, pv, hlt, by go_num, rfl, HW, HP, HNE, HBQ, HT, Lib.hid (by rw [← HW2.out, HDR.out, parseGo_dig (by omega) (by omega)]), Lib.hid (by rw [← HL2.out, HDR.out, parseGo_dig (by omega) (by omega)]), by omega, by omega⟩, by simp [intOf]; omega⟩
                · have d57 : decide (c ≤ 57) = false := by simp [h57]
                  have HNL := Lib.hid (fun (r : List Int) (lv : Int) => parseGo_let (c := c) (lv := lv) (r := r) (by omega))
                  go_wp2_with (first
                    | (at_builtin; refine wpList_append_own_at _ rfl _ _ 26 rfl V.heap.size 3 i0 (.int .i64 0) 1 8 Tryd.underlying26 hi hz0 hz1 hz2 rfl (by decide) _ word.length (word.map (Value.int .i64)) rfl (World.ownsRow.alloc HW.out _) ⟨wr.heap.size, 0, none⟩ 1 1 [.int .i64 c] rfl rfl (cell_one_new _ _ _) (by intro u hu; simp at hu; subst hu; rfl) (by unfold maxLen; omega) (by omega) (by simp; omega) ?_; intro wv2 w2 hown hg _ hat; obtain ⟨r1, r2, r3, r4, r5⟩ := row_app HP.out HNE.out hown rfl hg hat; have R1 := Lib.hid r1; have R2 := Lib.hid r2; have R3 := Lib.hid r3; have BQ2 := Lib.hid (HBQ.out.turn r4 (HW.out.notin (by omega))); have T2 := Lib.hid (turn_row HT.out HW.out r4); have c21 := BQ2.out.cell 1; simp at c21; clear r1 r2 r3 r4 hown hg hat)
                    | (at_builtin; refine wpList_append_own_at _ rfl _ _ 26 rfl V.heap.size 3 i0 (.int .i64 0) 1 8 Tryd.underlying26 hi hz0 hz1 hz2 rfl (by decide) pv levels.length (levels.map (Value.int .i64)) rfl (World.ownsRow.alloc R2.out _) ⟨w2.heap.size, 0, none⟩ 1 1 [.int .i64 lv] rfl rfl (cell_one_new _ _ _) (by intro u hu; simp at hu; subst hu; rfl) (by unfold maxLen; omega) (by omega) (by simp; omega) ?_; intro pv3 w3 hown hg _ hat; obtain ⟨s1, s2, s3, s4, s5⟩ := row_app R1.out (fun g hg hh => R3.out g hh hg) hown rfl hg hat; obtain ⟨pa3, pc3, hpe⟩ := row_slice s1; rw [show (levels ++ [lv]).length = levels.length + 1 from by simp] at hpe; subst hpe; have S1 := Lib.hid s1; have S2 := Lib.hid s2; have S3 := Lib.hid s3; have BQ3 := Lib.hid (BQ2.out.turn s4 (R2.out.notin (by omega))); have T3 := Lib.hid (turn_row T2.out R2.out s4); have c31 := BQ3.out.cell 1; have f31 := BQ3.out.frozen 1; simp at c31; clear s1 s2 s3 s4 hown hg hat))
                  have TS := Lib.hid ((Turn.refl [q] w3).setCell (p := ⟨q, 1, none⟩) (.inl (by simp)) (.slice pa3 (levels.length + 1) pc3))
                  exact ⟨⟨k + 1, 0, word ++ [c], levels ++ [lv], (.slice pa3 (levels.length + 1) pc3), hlt, by go_num, rfl, Lib.hid (row_turn S2.out TS.out (fun g hg hm => by have := S2.out.base g hg; simp at hm; omega)), Lib.hid (row_turn S1.out TS.out (fun g hg hm => by have := S1.out.base g hg; simp at hm; omega)), Lib.hid (fun g hg hh => S3.out g hh hg), Lib.hid (by have := BQ3.out.set_ 1 (.slice pa3 (levels.length + 1) pc3); simpa using this), Lib.hid (T3.out.setCell (.inl (by simp)) _), Lib.hid (by rw [← HW2.out, HDR.out, HNL.out, List.append_assoc]; rfl), Lib.hid (by rw [← HL2.out, HDR.out, HNL.out, List.append_assoc]; rfl), by simp; omega, by simp; omega⟩, by simp [intOf]; omega⟩
              · have d48 : decide (48 ≤ c) = false := by simp [h48]
                have HNL := Lib.hid (fun (r : List Int) (lv : Int) => parseGo_let (c := c) (lv := lv) (r := r) (by omega))
                go_wp2_with (first
                  | (at_builtin; refine wpList_append_own_at _ rfl _ _ 26 rfl V.heap.size 3 i0 (.int .i64 0) 1 8 Tryd.underlying26 hi hz0 hz1 hz2 rfl (by decide) _ word.length (word.map (Value.int .i64)) rfl (World.ownsRow.alloc HW.out _) ⟨wr.heap.size, 0, none⟩ 1 1 [.int .i64 c] rfl rfl (cell_one_new _ _ _) (by intro u hu; simp at hu; subst hu; rfl) (by unfold maxLen; omega) (by omega) (by simp; omega) ?_; intro wv2 w2 hown hg _ hat; obtain ⟨r1, r2, r3, r4, r5⟩ := row_app HP.out HNE.out hown rfl hg hat; have R1 := Lib.hid r1; have R2 := Lib.hid r2; have R3 := Lib.hid r3; have BQ2 := Lib.hid (HBQ.out.turn r4 (HW.out.notin (by omega))); have T2 := Lib.hid (turn_row HT.out HW.out r4); have c21 := BQ2.out.cell 1; simp at c21; clear r1 r2 r3 r4 hown hg hat)
                  | (at_builtin; refine wpList_append_own_at _ rfl _ _ 26 rfl V.heap.size 3 i0 (.int .i64 0) 1 8 Tryd.underlying26 hi hz0 hz1 hz2 rfl (by decide) pv levels.length (levels.map (Value.int .i64)) rfl (World.ownsRow.alloc R2.out _) ⟨w2.heap.size, 0, none⟩ 1 1 [.int .i64 lv] rfl rfl (cell_one_new _ _ _) (by intro u hu; simp at hu; subst hu; rfl) (by unfold maxLen; omega) (by omega) (by simp; omega) ?_; intro pv3 w3 hown hg _ hat; obtain ⟨s1, s2, s3, s4, s5⟩ := row_app R1.out (fun g hg hh => R3.out g hh hg) hown rfl hg hat; obtain ⟨pa3, pc3, hpe⟩ := row_slice s1; rw [show (levels ++ [lv]).length = levels.length + 1 from by simp] at hpe; subst hpe; have S1 := Lib.hid s1; have S2 := Lib.hid s2; have S3 := Lib.hid s3; have BQ3 := Lib.hid (BQ2.out.turn s4 (R2.out.notin (by omega))); have T3 := Lib.hid (turn_row T2.out R2.out s4); have c31 := BQ3.out.cell 1; have f31 := BQ3.out.frozen 1; simp at c31; clear s1 s2 s3 s4 hown hg hat))
                have TS := Lib.hid ((Turn.refl [q] w3).setCell (p := ⟨q, 1, none⟩) (.inl (by simp)) (.slice pa3 (levels.length + 1) pc3))
                exact ⟨⟨k + 1, 0, word ++ [c], levels ++ [lv], (.slice pa3 (levels.length + 1) pc3), hlt, by go_num, rfl, Lib.hid (row_turn S2.out TS.out (fun g hg hm => by have := S2.out.base g hg; simp at hm; omega)), Lib.hid (row_turn S1.out TS.out (fun g hg hm => by have := S1.out.base g hg; simp at hm; omega)), Lib.hid (fun g hg hh => S3.out g hh hg), Lib.hid (by have := BQ3.out.set_ 1 (.slice pa3 (levels.length + 1) pc3); simpa using this), Lib.hid (T3.out.setCell (.inl (by simp)) _), Lib.hid (by rw [← HW2.out, HDR.out, HNL.out, List.append_assoc]; rfl), Lib.hid (by rw [← HL2.out, HDR.out, HNL.out, List.append_assoc]; rfl), by simp; omega, by simp; omega⟩, by simp [intOf]; omega⟩
            · have hke : k = M.length := by omega
              have hnil : M.drop k = [] := by rw [hke]; exact List.drop_length
              have hW3 : word = (parseGo 0 M).1 := by have := HW2.out; rw [hnil] at this; simpa [parseGo] using this
              have hL3 : levels ++ [lv] = (parseGo 0 M).2 := by have := HL2.out; rw [hnil] at this; simpa [parseGo] using this
              have HPat2 := Lib.hid (show patOf L = ⟨encI word, levels ++ [lv], false, true⟩ by rw [HPat.out, hW3, hL3])
              have hok : okI word = true := by rw [hW3]; exact HOKM.out
              have HMK := Lib.hid (show makeP word = (encI word, 0) by unfold makeP; rw [hok]; rfl)
              have hel := encI_le word
              have d7 : decide (k < M.length) = false := by simp [hlt]
              obtain ⟨nc, tx, hpr⟩ : ∃ nc tx, printP (patOf L) = (nc, tx) := ⟨_, _, rfl⟩
              have HPR := Lib.hid hpr
              clear hpr
              have c11 := HBQ.out.cell 1
              simp at c11
              clear hW3 hL3 hok hnil
              go_wp2_with (first
                | (at_builtin; refine wpList_append_own_at _ rfl _ _ 26 rfl V.heap.size 3 i0 (.int .i64 0) 1 8 Tryd.underlying26 hi hz0 hz1 hz2 rfl (by decide) pv levels.length (levels.map (Value.int .i64)) rfl (World.ownsRow.alloc HP.out _) ⟨wr.heap.size, 0, none⟩ 1 1 [.int .i64 lv] rfl rfl (cell_one_new _ _ _) (by intro u hu; simp at hu; subst hu; rfl) (by unfold maxLen; omega) (by omega) (by simp; omega) ?_; intro pv3 w3 hown hg _ hat; obtain ⟨s1, s2, s3, s4, s5⟩ := row_app HW.out (fun g hg hh => HNE.out g hh hg) hown rfl hg hat; obtain ⟨pa3, pc3, hpe⟩ := row_slice s1; rw [show (levels ++ [lv]).length = levels.length + 1 from by simp] at hpe; subst hpe; have S1 := Lib.hid s1; have S2 := Lib.hid s2; have BQ3 := Lib.hid (HBQ.out.turn s4 (HP.out.notin (by omega))); have T3 := Lib.hid (turn_row HT.out HP.out s4); have c31 := BQ3.out.cell 1; have f31 := BQ3.out.frozen 1; simp at c31; have TS := Lib.hid ((Turn.refl [q] w3).setCell (p := ⟨q, 1, none⟩) (.inl (by simp)) (.slice pa3 (levels.length + 1) pc3)); have S1' := Lib.hid (row_turn S1.out TS.out (fun g hg hm => by have := S1.out.base g hg; simp at hm; omega)); have S2' := Lib.hid (row_turn S2.out TS.out (fun g hg hm => by have := S2.out.base g hg; simp at hm; omega)); have BQ4 : Hid (Blk (w3.setCell ⟨q, 1, none⟩ (.slice pa3 (levels.length + 1) pc3)) q 33 #[.string ⟨#[]⟩, .slice pa3 (levels.length + 1) pc3, .bool false, .bool true]) := Lib.hid (by have := BQ3.out.set_ 1 (.slice pa3 (levels.length + 1) pc3); simpa using this); have T4 := Lib.hid (T3.out.setCell (p := ⟨q, 1, none⟩) (.inl (by simp)) (.slice pa3 (levels.length + 1) pc3)); clear s1 s2 s3 s4 hown hg hat)
                | (go_at_call 41; refine (make_any _ word _ (by omega) (Ints.of_owns S2'.out)).mono ?_; rw [HMK.out]; rintro e w5 ⟨rfl, hb5⟩; have hs5 := hb5.size; have BQ5 := Lib.hid (BQ4.out.below hb5 BQ4.out.lt); have c50 := BQ5.out.cell 0; have f50 := BQ5.out.frozen 0; simp at c50; have BQ6 : Hid (Blk (w5.setCell ⟨q, 0, none⟩ (.string ⟨(encI word).toArray⟩)) q 33 #[.string ⟨(encI word).toArray⟩, .slice pa3 (levels.length + 1) pc3, .bool false, .bool true]) := Lib.hid (by have := BQ5.out.set_ 0 (.string ⟨(encI word).toArray⟩); simpa using this); obtain ⟨v0, v1, v2, v3⟩ := BQ6.out.four; have T6 := Lib.hid ((T4.out.below hb5 T4.out.size).setCell (p := ⟨q, 0, none⟩) (.inl (by simp)) (.string ⟨(encI word).toArray⟩)); have S6 := Lib.hid (row_turn (row_turn S1'.out (Turn.ofBelow (F := []) hb5 (Nat.le_refl _)) (fun _ _ => by simp)) ((Turn.refl [q] w5).setCell (p := ⟨q, 0, none⟩) (.inl (by simp)) (.string ⟨(encI word).toArray⟩)) (fun g hg hm => by have := row_base S1'.out g hg; simp at hm; omega)))
                | (go_at_call 18; refine (print_any ⟨encI word, levels ++ [lv], false, true⟩ (.slice pa3 (levels.length + 1) pc3) (by show (encI word).length ≤ _; omega) (by show (levels ++ [lv]).length ≤ _; simp; omega) _ (Ints.of_owns S6.out)).mono ?_; unfold PrintPost; rw [← HPat2.out, HPR.out]; rintro e w7 ⟨rfl, hb7⟩; have BQ7 := Lib.hid (BQ6.out.below hb7 BQ6.out.lt); obtain ⟨x0, x1, x2, x3⟩ := BQ7.out.four; have BR := Lib.hid ((HVR.out.turn T6.out (by simp; omega)).below hb7 (by have := (HVR.out.turn T6.out (by simp; omega)).lt; exact this)); obtain ⟨y0, y1, y2, y3⟩ := BR.out.four; have f0 := BR.out.frozen 0; have f1 := BR.out.frozen 1; have f2 := BR.out.frozen 2; have f3 := BR.out.frozen 3; have HF := Lib.hid (HVB.out.trans ((T6.out.toBelow (fun i hi => by simp at hi; omega) (by omega)).trans (hb7.mono (by have := T6.out.size; omega)))); have S7 := Lib.hid (row_turn S6.out (Turn.ofBelow (F := []) hb7 (Nat.le_refl _)) (fun _ _ => by simp))))
              all_goals
                first
                  | (have hn : nc = 0 := by assumption
                     have ht : (!tx == s) = false := by assumption
                     have ht2 : tx = s := by simpa using ht
                     obtain ⟨c0, c1, c2, c3⟩ := (BR.out.store4 (.string ⟨(encI word).toArray⟩) (.slice pa3 (levels.length + 1) pc3) (.bool false) (.bool true)).four
                     have S8 := row_turn S7.out (turn_store4 w7 w.heap.size (.string ⟨(encI word).toArray⟩) (.slice pa3 (levels.length + 1) pc3) (.bool false) (.bool true)) (fun g hg hm => by have := row_base S7.out g hg; simp at hm; omega)
                     have hp := parsePost (s := s) (n := 0) (P := patOf L) (pv := .slice pa3 (levels.length + 1) pc3) (HPo.out (by rw [HPR.out, hn, ht2])) (below_store4 HF.out (Nat.le_refl _) (.string ⟨(encI word).toArray⟩) (.slice pa3 (levels.length + 1) pc3) (.bool false) (.bool true)) (by rw [HPat2.out]; exact IntRow.weak S8 (by omega))
                     rw [HPat2.out] at hp
                     exact bodyPost_ret (v := .tuple #[patV ⟨encI word, levels ++ [lv], false, true⟩ (.slice pa3 (levels.length + 1) pc3), .int .i64 0]) (by simp [results, Tryd.results20, go_sem, patV, c0, c1, c2, c3]) rfl hp)
                  | (have hno : printP (patOf L) ≠ (0, s) := by
                       rw [HPR.out]
                       intro e
                       injection e with e1 e2
                       first
                         | exact absurd e1 (by assumption)
                         | (have ht : (!tx == s) = true := by assumption
                            rw [e2] at ht
                            simp at ht)
                     obtain ⟨c0, c1, c2, c3⟩ := (BR.out.store4 (.string ⟨#[]⟩) (.slice none 0 0) (.bool false) (.bool false)).four
                     exact bodyPost_ret (v := .tuple #[zeroPV, .int .i64 14]) (by simp [results, Tryd.results20, go_sem, zeroPV, c0, c1, c2, c3]) rfl (parsePost_no (n := 14) (HPn.out hno) (below_store4 HF.out (Nat.le_refl _) _ _ _ _)))
        · have e1 : (y == 46) = false := by simp [hy46]
          go_enter Tryd.func20, Tryd.ntmps20
          go_wp2_with (first
            | (go_at_call 38; refine (HPt.out _).mono ?_; rintro e w1 ⟨ao, cap, rfl, hb1, hrow⟩; have hbW := ((Below.refl w.heap.size w).alloc (Nat.le_refl _) (.cells #[.string ⟨#[]⟩, .slice none 0 0, .bool false, .bool false] 33)).trans (hb1.mono (by simp)); have hw1 := hb1.size; simp at hw1; have B1 := (Blk.new w 33 #[.string ⟨#[]⟩, .slice none 0 0, .bool false, .bool false]).below hb1 (by simp); obtain ⟨b, off, rfl, hblt, hcl, hlc, hcm⟩ := ints_pos (Ints.of_owns hrow.out) hpos; have hcA : ∀ (o : Obj) j, j < L.length → (w1.alloc o).cell? ⟨b, off + j, none⟩ = some (.int .i64 (L.getD j 0)) := fun o j hj => (World.cell?_of_block (a := ⟨b, off + j, none⟩) (Below.heap_alloc w1 _ b hblt)).trans (hcl j hj); have HCL := Lib.hid hcA; have hc0 := hcA (.cells #[.string ⟨#[]⟩, .slice none 0 0, .bool false, .bool false] 33) 0 hpos; rw [HX.out, Nat.add_zero] at hc0; have hcY := hcA (.cells #[.string ⟨#[]⟩, .slice none 0 0, .bool false, .bool false] 33) (L.length - 1) (by omega); rw [HY.out] at hcY; clear hcl hcA; have HQ := Lib.hid (Blk.new w1 33 #[.string ⟨#[]⟩, .slice none 0 0, .bool false, .bool false]); have HQ2 := Lib.hid (Blk.new w1 33 #[.string ⟨#[]⟩, .slice none 0 0, .bool false, .bool false]); have g2 := HQ.out.frozen 2; have g3 := HQ2.out.frozen 3; obtain ⟨q0, q1, q2, q3⟩ := HQ.out.four; obtain ⟨p0, p1, p2, p3⟩ := HQ2.out.four; have z2 : (L.length : Int) ≤ (cap : Int) := (by omega)))
          obtain ⟨V, hV⟩ : ∃ V, w1.alloc (.cells #[.string ⟨#[]⟩, .slice none 0 0, .bool false, .bool false] 33) = V := ⟨_, rfl⟩
          have HCV := HCL.out (.cells #[.string ⟨#[]⟩, .slice none 0 0, .bool false, .bool false] 33)
          rw [hV] at HCV
          simp only [hV]
          have HCL := Lib.hid HCV
          clear HCV
          obtain ⟨M, hMd, hMn⟩ : ∃ M, L = M ∧ M.length = L.length - 0 := ⟨L, rfl, by simp; try omega⟩
          have hM : stripE (stripB L) = M ∧ hasB L = false ∧ hasE (stripB L) = false := by
            rw [← hMd]
            exact strip_nf HX.out HY.out hpos hx46 hy46
          have hMg : ∀ j, j < M.length → M.getD j 0 = L.getD (j + 0) 0 := fun j hj => by rw [← hMd] at hj ⊢; exact strip_get0 L j
          have HMG := Lib.hid hMg
          clear hMg hMd
          have HM := Lib.hid (show stripE (stripB L) = M ∧ hasB L = false ∧ hasE (stripB L) = false from hM)
          have HPat := Lib.hid (show patOf L = ⟨encI (parseGo 0 M).1, (parseGo 0 M).2, false, false⟩ by unfold patOf; rw [HM.out.1, HM.out.2.1, HM.out.2.2])
          have HOKM := Lib.hid (show okI (parseGo 0 M).1 = true by have := HOK.out; rwa [HM.out.1] at this)
          have hMl : M.length ≤ s.length := by have := strip_len L; rw [HM.out.1] at this; omega
          have HVB := Lib.hid (show Below w.heap.size w V by rw [← hV]; exact (hbW.alloc (by omega) _))
          have HVQ := Lib.hid (show Blk V w1.heap.size 33 #[.string ⟨#[]⟩, .slice none 0 0, .bool false, .bool false] by rw [← hV]; exact Blk.new _ _ _)
          have HVR := Lib.hid (show Blk V w.heap.size 33 #[.string ⟨#[]⟩, .slice none 0 0, .bool false, .bool false] by rw [← hV]; exact B1.alloc _)
          have hVs : V.heap.size = w1.heap.size + 1 := by rw [← hV]; simp
          clear hM hV B1 hbW
          obtain ⟨q, hq⟩ : ∃ q, w1.heap.size = q := ⟨_, rfl⟩
          rw [hq] at HVQ hVs
          simp only [hq]
          have hwq : w.heap.size < q := by omega
          go_loopw [7, 8, 54] (fun lvv wv i wr => ∃ (k : Nat) (lv : Int) (word levels : List Int) (pv : Value), k ≤ M.length ∧ i = .int .i64 (k : Int) ∧ lvv = .int .i64 lv ∧ Hid (IntRow wr V.heap.size wv word) ∧ Hid (IntRow wr V.heap.size pv levels) ∧ Hid (∀ g, wv.ownBlock = some g → pv.ownBlock ≠ some g) ∧ Hid (Blk wr q 33 #[.string ⟨#[]⟩, pv, .bool false, .bool false]) ∧ Hid (Turn [q] V wr) ∧ Hid (word ++ (parseGo lv (M.drop k)).1 = (parseGo 0 M).1) ∧ Hid (levels ++ (parseGo lv (M.drop k)).2 = (parseGo 0 M).2) ∧ word.length ≤ k ∧ levels.length ≤ k) (fun _ _ i _ => M.length - (intOf i).toNat)
          case atStart => exact ⟨0, 0, [], [], .slice none 0 0, Nat.zero_le _, rfl, rfl, Lib.hid (IntRow.nil _ _), Lib.hid (IntRow.nil _ _), Lib.hid (fun g hg => by simp [Value.ownBlock] at hg), Lib.hid HVQ.out, Lib.hid ⟨rfl, rfl, rfl, Nat.le_refl _, fun _ _ _ => rfl⟩, Lib.hid rfl, Lib.hid rfl, Nat.zero_le _, Nat.zero_le _⟩
          case round =>
            obtain ⟨k, lv, word, levels, pv, hk, rfl, rfl, HW, HP, HNE, HBQ, HT, HW2, HL2, hwl, hll⟩ := hrel
            have hrs := HT.out.size
            have hqlt : q < wr.heap.size := by omega
            by_cases hlt : k < M.length
            · have hcell := (HT.out.cell (p := ⟨b, off + k, none⟩) (by show b < _; omega) (by simp; omega)).trans (show V.cell? ⟨b, off + k, none⟩ = some (.int .i64 (M.getD k 0)) by
                rw [HMG.out k hlt, show off + k = off + (k + 0) from by omega]
                exact HCL.out (k + 0) (by omega))
              have HDR := Lib.hid (drop_at hlt)
              obtain ⟨c, hc⟩ : ∃ c, M.getD k 0 = c := ⟨_, rfl⟩
              rw [hc] at hcell HDR
              clear hc
              by_cases h48 : 48 ≤ c
              · have d48 : decide (48 ≤ c) = true := by simp [h48]
                by_cases h57 : c ≤ 57
                · have d57 : decide (c ≤ 57) = true := by simp [h57]
                  go_wp2_with fail
                  exact ⟨⟨k + 1, c - 48, word, levels, pv, hlt, by go_num, rfl, HW, HP, HNE, HBQ, HT, Lib.hid (by rw [← HW2.out, HDR.out, parseGo_dig (by omega) (by omega)]), Lib.hid (by rw [← HL2.out, HDR.out, parseGo_dig (by omega) (by omega)]), by omega, by omega⟩, by simp [intOf]; omega⟩
                · have d57 : decide (c ≤ 57) = false := by simp [h57]
                  have HNL := Lib.hid (fun (r : List Int) (lv : Int) => parseGo_let (c := c) (lv := lv) (r := r) (by omega))
                  go_wp2_with (first
                    | (at_builtin; refine wpList_append_own_at _ rfl _ _ 26 rfl V.heap.size 3 i0 (.int .i64 0) 1 8 Tryd.underlying26 hi hz0 hz1 hz2 rfl (by decide) _ word.length (word.map (Value.int .i64)) rfl (World.ownsRow.alloc HW.out _) ⟨wr.heap.size, 0, none⟩ 1 1 [.int .i64 c] rfl rfl (cell_one_new _ _ _) (by intro u hu; simp at hu; subst hu; rfl) (by unfold maxLen; omega) (by omega) (by simp; omega) ?_; intro wv2 w2 hown hg _ hat; obtain ⟨r1, r2, r3, r4, r5⟩ := row_app HP.out HNE.out hown rfl hg hat; have R1 := Lib.hid r1; have R2 := Lib.hid r2; have R3 := Lib.hid r3; have BQ2 := Lib.hid (HBQ.out.turn r4 (HW.out.notin (by omega))); have T2 := Lib.hid (turn_row HT.out HW.out r4); have c21 := BQ2.out.cell 1; simp at c21; clear r1 r2 r3 r4 hown hg hat)
                    | (at_builtin; refine wpList_append_own_at _ rfl _ _ 26 rfl V.heap.size 3 i0 (.int .i64 0) 1 8 Tryd.underlying26 hi hz0 hz1 hz2 rfl (by decide) pv levels.length (levels.map (Value.int .i64)) rfl (World.ownsRow.alloc R2.out _) ⟨w2.heap.size, 0, none⟩ 1 1 [.int .i64 lv] rfl rfl (cell_one_new _ _ _) (by intro u hu; simp at hu; subst hu; rfl) (by unfold maxLen; omega) (by omega) (by simp; omega) ?_; intro pv3 w3 hown hg _ hat; obtain ⟨s1, s2, s3, s4, s5⟩ := row_app R1.out (fun g hg hh => R3.out g hh hg) hown rfl hg hat; obtain ⟨pa3, pc3, hpe⟩ := row_slice s1; rw [show (levels ++ [lv]).length = levels.length + 1 from by simp] at hpe; subst hpe; have S1 := Lib.hid s1; have S2 := Lib.hid s2; have S3 := Lib.hid s3; have BQ3 := Lib.hid (BQ2.out.turn s4 (R2.out.notin (by omega))); have T3 := Lib.hid (turn_row T2.out R2.out s4); have c31 := BQ3.out.cell 1; have f31 := BQ3.out.frozen 1; simp at c31; clear s1 s2 s3 s4 hown hg hat))
                  have TS := Lib.hid ((Turn.refl [q] w3).setCell (p := ⟨q, 1, none⟩) (.inl (by simp)) (.slice pa3 (levels.length + 1) pc3))
                  exact ⟨⟨k + 1, 0, word ++ [c], levels ++ [lv], (.slice pa3 (levels.length + 1) pc3), hlt, by go_num, rfl, Lib.hid (row_turn S2.out TS.out (fun g hg hm => by have := S2.out.base g hg; simp at hm; omega)), Lib.hid (row_turn S1.out TS.out (fun g hg hm => by have := S1.out.base g hg; simp at hm; omega)), Lib.hid (fun g hg hh => S3.out g hh hg), Lib.hid (by have := BQ3.out.set_ 1 (.slice pa3 (levels.length + 1) pc3); simpa using this), Lib.hid (T3.out.setCell (.inl (by simp)) _), Lib.hid (by rw [← HW2.out, HDR.out, HNL.out, List.append_assoc]; rfl), Lib.hid (by rw [← HL2.out, HDR.out, HNL.out, List.append_assoc]; rfl), by simp; omega, by simp; omega⟩, by simp [intOf]; omega⟩
              · have d48 : decide (48 ≤ c) = false := by simp [h48]
                have HNL := Lib.hid (fun (r : List Int) (lv : Int) => parseGo_let (c := c) (lv := lv) (r := r) (by omega))
                go_wp2_with (first
                  | (at_builtin; refine wpList_append_own_at _ rfl _ _ 26 rfl V.heap.size 3 i0 (.int .i64 0) 1 8 Tryd.underlying26 hi hz0 hz1 hz2 rfl (by decide) _ word.length (word.map (Value.int .i64)) rfl (World.ownsRow.alloc HW.out _) ⟨wr.heap.size, 0, none⟩ 1 1 [.int .i64 c] rfl rfl (cell_one_new _ _ _) (by intro u hu; simp at hu; subst hu; rfl) (by unfold maxLen; omega) (by omega) (by simp; omega) ?_; intro wv2 w2 hown hg _ hat; obtain ⟨r1, r2, r3, r4, r5⟩ := row_app HP.out HNE.out hown rfl hg hat; have R1 := Lib.hid r1; have R2 := Lib.hid r2; have R3 := Lib.hid r3; have BQ2 := Lib.hid (HBQ.out.turn r4 (HW.out.notin (by omega))); have T2 := Lib.hid (turn_row HT.out HW.out r4); have c21 := BQ2.out.cell 1; simp at c21; clear r1 r2 r3 r4 hown hg hat)
                  | (at_builtin; refine wpList_append_own_at _ rfl _ _ 26 rfl V.heap.size 3 i0 (.int .i64 0) 1 8 Tryd.underlying26 hi hz0 hz1 hz2 rfl (by decide) pv levels.length (levels.map (Value.int .i64)) rfl (World.ownsRow.alloc R2.out _) ⟨w2.heap.size, 0, none⟩ 1 1 [.int .i64 lv] rfl rfl (cell_one_new _ _ _) (by intro u hu; simp at hu; subst hu; rfl) (by unfold maxLen; omega) (by omega) (by simp; omega) ?_; intro pv3 w3 hown hg _ hat; obtain ⟨s1, s2, s3, s4, s5⟩ := row_app R1.out (fun g hg hh => R3.out g hh hg) hown rfl hg hat; obtain ⟨pa3, pc3, hpe⟩ := row_slice s1; rw [show (levels ++ [lv]).length = levels.length + 1 from by simp] at hpe; subst hpe; have S1 := Lib.hid s1; have S2 := Lib.hid s2; have S3 := Lib.hid s3; have BQ3 := Lib.hid (BQ2.out.turn s4 (R2.out.notin (by omega))); have T3 := Lib.hid (turn_row T2.out R2.out s4); have c31 := BQ3.out.cell 1; have f31 := BQ3.out.frozen 1; simp at c31; clear s1 s2 s3 s4 hown hg hat))
                have TS := Lib.hid ((Turn.refl [q] w3).setCell (p := ⟨q, 1, none⟩) (.inl (by simp)) (.slice pa3 (levels.length + 1) pc3))
                exact ⟨⟨k + 1, 0, word ++ [c], levels ++ [lv], (.slice pa3 (levels.length + 1) pc3), hlt, by go_num, rfl, Lib.hid (row_turn S2.out TS.out (fun g hg hm => by have := S2.out.base g hg; simp at hm; omega)), Lib.hid (row_turn S1.out TS.out (fun g hg hm => by have := S1.out.base g hg; simp at hm; omega)), Lib.hid (fun g hg hh => S3.out g hh hg), Lib.hid (by have := BQ3.out.set_ 1 (.slice pa3 (levels.length + 1) pc3); simpa using this), Lib.hid (T3.out.setCell (.inl (by simp)) _), Lib.hid (by rw [← HW2.out, HDR.out, HNL.out, List.append_assoc]; rfl), Lib.hid (by rw [← HL2.out, HDR.out, HNL.out, List.append_assoc]; rfl), by simp; omega, by simp; omega⟩, by simp [intOf]; omega⟩
            · have hke : k = M.length := by omega
              have hnil : M.drop k = [] := by rw [hke]; exact List.drop_length
              have hW3 : word = (parseGo 0 M).1 := by have := HW2.out; rw [hnil] at this; simpa [parseGo] using this
              have hL3 : levels ++ [lv] = (parseGo 0 M).2 := by have := HL2.out; rw [hnil] at this; simpa [parseGo] using this
              have HPat2 := Lib.hid (show patOf L = ⟨encI word, levels ++ [lv], false, false⟩ by rw [HPat.out, hW3, hL3])
              have hok : okI word = true := by rw [hW3]; exact HOKM.out
              have HMK := Lib.hid (show makeP word = (encI word, 0) by unfold makeP; rw [hok]; rfl)
              have hel := encI_le word
              have d7 : decide (k < M.length) = false := by simp [hlt]
              obtain ⟨nc, tx, hpr⟩ : ∃ nc tx, printP (patOf L) = (nc, tx) := ⟨_, _, rfl⟩
              have HPR := Lib.hid hpr
              clear hpr
              have c11 := HBQ.out.cell 1
              simp at c11
              clear hW3 hL3 hok hnil
              go_wp2_with (first
                | (at_builtin; refine wpList_append_own_at _ rfl _ _ 26 rfl V.heap.size 3 i0 (.int .i64 0) 1 8 Tryd.underlying26 hi hz0 hz1 hz2 rfl (by decide) pv levels.length (levels.map (Value.int .i64)) rfl (World.ownsRow.alloc HP.out _) ⟨wr.heap.size, 0, none⟩ 1 1 [.int .i64 lv] rfl rfl (cell_one_new _ _ _) (by intro u hu; simp at hu; subst hu; rfl) (by unfold maxLen; omega) (by omega) (by simp; omega) ?_; intro pv3 w3 hown hg _ hat; obtain ⟨s1, s2, s3, s4, s5⟩ := row_app HW.out (fun g hg hh => HNE.out g hh hg) hown rfl hg hat; obtain ⟨pa3, pc3, hpe⟩ := row_slice s1; rw [show (levels ++ [lv]).length = levels.length + 1 from by simp] at hpe; subst hpe; have S1 := Lib.hid s1; have S2 := Lib.hid s2; have BQ3 := Lib.hid (HBQ.out.turn s4 (HP.out.notin (by omega))); have T3 := Lib.hid (turn_row HT.out HP.out s4); have c31 := BQ3.out.cell 1; have f31 := BQ3.out.frozen 1; simp at c31; have TS := Lib.hid ((Turn.refl [q] w3).setCell (p := ⟨q, 1, none⟩) (.inl (by simp)) (.slice pa3 (levels.length + 1) pc3)); have S1' := Lib.hid (row_turn S1.out TS.out (fun g hg hm => by have := S1.out.base g hg; simp at hm; omega)); have S2' := Lib.hid (row_turn S2.out TS.out (fun g hg hm => by have := S2.out.base g hg; simp at hm; omega)); have BQ4 : Hid (Blk (w3.setCell ⟨q, 1, none⟩ (.slice pa3 (levels.length + 1) pc3)) q 33 #[.string ⟨#[]⟩, .slice pa3 (levels.length + 1) pc3, .bool false, .bool false]) := Lib.hid (by have := BQ3.out.set_ 1 (.slice pa3 (levels.length + 1) pc3); simpa using this); have T4 := Lib.hid (T3.out.setCell (p := ⟨q, 1, none⟩) (.inl (by simp)) (.slice pa3 (levels.length + 1) pc3)); clear s1 s2 s3 s4 hown hg hat)
                | (go_at_call 41; refine (make_any _ word _ (by omega) (Ints.of_owns S2'.out)).mono ?_; rw [HMK.out]; rintro e w5 ⟨rfl, hb5⟩; have hs5 := hb5.size; have BQ5 := Lib.hid (BQ4.out.below hb5 BQ4.out.lt); have c50 := BQ5.out.cell 0; have f50 := BQ5.out.frozen 0; simp at c50; have BQ6 : Hid (Blk (w5.setCell ⟨q, 0, none⟩ (.string ⟨(encI word).toArray⟩)) q 33 #[.string ⟨(encI word).toArray⟩, .slice pa3 (levels.length + 1) pc3, .bool false, .bool false]) := Lib.hid (by have := BQ5.out.set_ 0 (.string ⟨(encI word).toArray⟩); simpa using this); obtain ⟨v0, v1, v2, v3⟩ := BQ6.out.four; have T6 := Lib.hid ((T4.out.below hb5 T4.out.size).setCell (p := ⟨q, 0, none⟩) (.inl (by simp)) (.string ⟨(encI word).toArray⟩)); have S6 := Lib.hid (row_turn (row_turn S1'.out (Turn.ofBelow (F := []) hb5 (Nat.le_refl _)) (fun _ _ => by simp)) ((Turn.refl [q] w5).setCell (p := ⟨q, 0, none⟩) (.inl (by simp)) (.string ⟨(encI word).toArray⟩)) (fun g hg hm => by have := row_base S1'.out g hg; simp at hm; omega)))
                | (go_at_call 18; refine (print_any ⟨encI word, levels ++ [lv], false, false⟩ (.slice pa3 (levels.length + 1) pc3) (by show (encI word).length ≤ _; omega) (by show (levels ++ [lv]).length ≤ _; simp; omega) _ (Ints.of_owns S6.out)).mono ?_; unfold PrintPost; rw [← HPat2.out, HPR.out]; rintro e w7 ⟨rfl, hb7⟩; have BQ7 := Lib.hid (BQ6.out.below hb7 BQ6.out.lt); obtain ⟨x0, x1, x2, x3⟩ := BQ7.out.four; have BR := Lib.hid ((HVR.out.turn T6.out (by simp; omega)).below hb7 (by have := (HVR.out.turn T6.out (by simp; omega)).lt; exact this)); obtain ⟨y0, y1, y2, y3⟩ := BR.out.four; have f0 := BR.out.frozen 0; have f1 := BR.out.frozen 1; have f2 := BR.out.frozen 2; have f3 := BR.out.frozen 3; have HF := Lib.hid (HVB.out.trans ((T6.out.toBelow (fun i hi => by simp at hi; omega) (by omega)).trans (hb7.mono (by have := T6.out.size; omega)))); have S7 := Lib.hid (row_turn S6.out (Turn.ofBelow (F := []) hb7 (Nat.le_refl _)) (fun _ _ => by simp))))
              all_goals
                first
                  | (have hn : nc = 0 := by assumption
                     have ht : (!tx == s) = false := by assumption
                     have ht2 : tx = s := by simpa using ht
                     obtain ⟨c0, c1, c2, c3⟩ := (BR.out.store4 (.string ⟨(encI word).toArray⟩) (.slice pa3 (levels.length + 1) pc3) (.bool false) (.bool false)).four
                     have S8 := row_turn S7.out (turn_store4 w7 w.heap.size (.string ⟨(encI word).toArray⟩) (.slice pa3 (levels.length + 1) pc3) (.bool false) (.bool false)) (fun g hg hm => by have := row_base S7.out g hg; simp at hm; omega)
                     have hp := parsePost (s := s) (n := 0) (P := patOf L) (pv := .slice pa3 (levels.length + 1) pc3) (HPo.out (by rw [HPR.out, hn, ht2])) (below_store4 HF.out (Nat.le_refl _) (.string ⟨(encI word).toArray⟩) (.slice pa3 (levels.length + 1) pc3) (.bool false) (.bool false)) (by rw [HPat2.out]; exact IntRow.weak S8 (by omega))
                     rw [HPat2.out] at hp
                     exact bodyPost_ret (v := .tuple #[patV ⟨encI word, levels ++ [lv], false, false⟩ (.slice pa3 (levels.length + 1) pc3), .int .i64 0]) (by simp [results, Tryd.results20, go_sem, patV, c0, c1, c2, c3]) rfl hp)
                  | (have hno : printP (patOf L) ≠ (0, s) := by
                       rw [HPR.out]
                       intro e
                       injection e with e1 e2
                       first
                         | exact absurd e1 (by assumption)
                         | (have ht : (!tx == s) = true := by assumption
                            rw [e2] at ht
                            simp at ht)
                     obtain ⟨c0, c1, c2, c3⟩ := (BR.out.store4 (.string ⟨#[]⟩) (.slice none 0 0) (.bool false) (.bool false)).four
                     exact bodyPost_ret (v := .tuple #[zeroPV, .int .i64 14]) (by simp [results, Tryd.results20, go_sem, zeroPV, c0, c1, c2, c3]) rfl (parsePost_no (n := 14) (HPn.out hno) (below_store4 HF.out (Nat.le_refl _) _ _ _ _)))
end Go.Proofs.YtdcdlmigagjbiaaDoor
