/- Points walked. -/
import Derived.Test.YtdcdlmigagjbiaaDoorHls
namespace Go.Proofs.YtdcdlmigagjbiaaDoor
open Go.RowKit Go.Maps
theorem oddsG_snoc (l : List Int) (x : Int) : ∀ i, oddsG i (l ++ [x]) = oddsG i l ++ (if Int.tmod x 2 = 1 then [((i + l.length : Nat) : Int)] else []) := by
  induction l with
  | nil => intro i; simp [oddsG]
  | cons y r ih =>
    intro i
    show (if Int.tmod y 2 = 1 then (i : Int) :: oddsG (i + 1) (r ++ [x]) else oddsG (i + 1) (r ++ [x])) = (if Int.tmod y 2 = 1 then (i : Int) :: oddsG (i + 1) r else oddsG (i + 1) r) ++ _
    rw [ih, show i + 1 + r.length = i + (y :: r).length from by simp; omega]
    split <;> rfl
theorem oddsG_len (l : List Int) : ∀ i, (oddsG i l).length ≤ l.length := by
  induction l with
  | nil => intro i; simp [oddsG]
  | cons y r ih =>
    intro i
    have := ih (i + 1)
    show (if Int.tmod y 2 = 1 then (i : Int) :: oddsG (i + 1) r else oddsG (i + 1) r).length ≤ _
    split <;> simp <;> omega
theorem filter_snoc (f : Int → Bool) (l : List Int) (x : Int) : (l ++ [x]).filter f = l.filter f ++ (if f x = true then [x] else []) := by
  rw [List.filter_append]
  by_cases h : f x = true <;> simp [h]
/-- what Points needs of a hyphenator -/
structure Good (st : HS) : Prop where
  ok : ∀ P, P ∈ st.pats → PatOk P
  right : 1 ≤ st.right ∧ st.right ≤ 64
  exs : ∀ t p, exLook st.exs t = some p → p.length ≤ 100000000
theorem pointsP_some {st : HS} {t : List UInt8} {L p : List Int} (h : wordP t = some L) (he : exLook st.exs t = some p) : pointsP st t = p.filter (keepP st.left st.right L.length) := by
  unfold pointsP allP; rw [h, he]
theorem pointsP_none {st : HS} {t : List UInt8} {L : List Int} (h : wordP t = some L) (he : exLook st.exs t = none) : pointsP st t = (oddsG 0 (levelsP st.pats L)).filter (keepP st.left st.right L.length) := by
  unfold pointsP allP; rw [h, he]
theorem points_nil (t : List UInt8) (w : World) : Calls Tryd.prog 15 #[.pointer none, .string ⟨t.toArray⟩] w (NilPost w) := by
  go_enter Tryd.func15, Tryd.ntmps15
  go_wp2_with (go_at_call 35; refine (word_nil t _).mono ?_; rintro e w1 ⟨rfl, rfl⟩)
  refine bodyPost_ret (v := .slice none 0 0) (by simp [results, Tryd.f15, go_sem]) rfl ⟨rfl, Below.refl _ _⟩
theorem points_no {t : List UInt8} (h : wordP (foldP t) = none) (ht : t.length ≤ 100000000) (a : Addr) (w : World) : Calls Tryd.prog 15 #[.pointer (some a), .string ⟨t.toArray⟩] w (NilPost w) := by
  go_enter Tryd.func15, Tryd.ntmps15
  go_wp2_with (go_at_call 35; refine (word_no h ht a _).mono ?_; rintro e w1 ⟨v, rfl, hb1⟩)
  refine bodyPost_ret (v := .slice none 0 0) (by simp [results, Tryd.f15, go_sem]) rfl ⟨rfl, hb1⟩
set_option maxRecDepth 100000 in
set_option maxHeartbeats 16000000 in
theorem points_yes {w : World} {B hb : Nat} {st : HS} (H : Hyph w B hb st) (G : Good st) {t : List UInt8} {L : List Int} (hw : wordP (foldP t) = some L) (ht : t.length ≤ 100000000) :
    Calls Tryd.prog 15 #[.pointer (some ⟨hb, 0, none⟩), .string ⟨t.toArray⟩] w (LevPost (pointsP st (foldP t)) w) := by
  obtain ⟨_, _, hLp, hL64⟩ := wordP_some hw
  have hfl := foldP_len t
  obtain ⟨hr1, hr64⟩ := G.right
  have HW := Lib.hid (fun w => word_yes hw ht ⟨hb, 0, none⟩ w)
  have HH := Lib.hid H
  have HWP := Lib.hid hw
  have HG := Lib.hid G
  obtain ⟨eb, eo, f, K, hT, hR, _, hX⟩ := H
  obtain ⟨mb, pvr, hblk⟩ := RootOf.blk hT hR
  have HX := Lib.hid hX
  have c2 := hblk.cell 2
  have c3 := hblk.cell 3
  have c4 := hblk.cell 4
  have hlt := hblk.lt
  simp at c2 c3 c4
  obtain ⟨lf, hlf⟩ : ∃ x, st.left = x := ⟨_, rfl⟩
  obtain ⟨rt, hrt⟩ : ∃ x, st.right = x := ⟨_, rfl⟩
  rw [hlf] at c3
  rw [hrt] at c4 hr1 hr64
  obtain ⟨i0, hi, hz0, hz1, hz2⟩ := info_parts int_info
  have HLF := Lib.hid hlf
  have HRT := Lib.hid hrt
  clear hT hR hX hblk hw hlf hrt G
  cases hex : exLook st.exs (foldP t) with
  | some p =>
    have HEX := Lib.hid hex
    clear hex
    have hpl := HG.out.exs _ _ HEX.out
    have HPS := Lib.hid (pointsP_some HWP.out HEX.out)
    go_enter Tryd.func15, Tryd.ntmps15
    go_wp2_with (go_at_call 35; refine (HW.out _).mono ?_; unfold WordYes; rintro e w1 ⟨ao, cap, rfl, hb1, hr1⟩; have c2 := (hb1.cell (p := ⟨hb, 2, none⟩) hlt).trans c2; have hlt1 := Nat.lt_of_lt_of_le hlt hb1.size; have HB1 := Lib.hid hb1; clear hb1)
    go_region_held3 (fun w' => w'.cell? ⟨hb, 2, none⟩ = some (Value.map (some eb)))
      (first | go_keep)
      (first
        | (go_at_call 29; refine (fold_at t (by omega) _).mono ?_; rintro e w3 ⟨rfl, hb3⟩; obtain ⟨v, hl, hv, hvn⟩ := ((((HX.out.below HB1.out).drewN _).below hb3)).look (foldP t) (by omega); rw [HEX.out] at hl hv; have t0 := (hb3.cell (p := ⟨hb, 2, none⟩) hlt1).trans c2; have HB3 : Hid (Below w1.heap.size w1 w3) := Lib.hid (below_undrewN hb3); have HV := Lib.hid hv; have HVN := Lib.hid hvn; clear hb3 hv hvn))
    have HB13 := Lib.hid (HB1.out.trans (HB3.out.mono HB1.out.size))
    clear c2 t0 hl
    have hv : IntRow w3 B v p := HV.out
    obtain ⟨vao, vcap, rfl⟩ := row_slice hv
    have HVR := Lib.hid hv
    clear hv HV HVN
    have HD := Lib.hid (Below.refl w3.heap.size w3)
    have HW3 := Lib.hid HB13.out
    go_wp2_with fail
    have d3 := (HW3.out.cell (p := ⟨hb, 3, none⟩) hlt).trans c3
    have d4 := (HW3.out.cell (p := ⟨hb, 4, none⟩) hlt).trans c4
    have hltS := Nat.lt_of_lt_of_le hlt HW3.out.size
    have hsS := HW3.out.size
    go_loopw [11, 53] (fun ov i wr => ∃ (k : Nat) (out : List Int), k ≤ p.length ∧ i = .int .i64 (k : Int) ∧ Hid (out = (p.take k).filter (keepP lf rt L.length)) ∧ out.length ≤ k ∧ Hid (IntRow wr w3.heap.size ov out) ∧ Hid (Below w3.heap.size w3 wr)) (fun _ i _ => p.length - (intOf i).toNat)
    case atStart => exact ⟨0, [], Nat.zero_le _, rfl, Lib.hid rfl, Nat.zero_le _, Lib.hid (int_nil _ _), Lib.hid (Below.refl _ _)⟩
    case round =>
      obtain ⟨k, out, hk, rfl, HO, hol, HR, HB⟩ := hrel
      have hrs := HB.out.size
      by_cases hlk : k < p.length
      · obtain ⟨vb, vo, rfl, hvlt, hvc, hvl, hvm⟩ := ints_pos (Ints.of_owns HVR.out) (by omega)
        have hcell := (HB.out.cell (p := ⟨vb, vo + k, none⟩) hvlt).trans (hvc k hlk)
        have d3 := (HB.out.cell (p := ⟨hb, 3, none⟩) hltS).trans d3
        have d4 := (HB.out.cell (p := ⟨hb, 4, none⟩) hltS).trans d4
        have htk := take_snoc p 0 k hlk
        obtain ⟨x, hx⟩ : ∃ x, p.getD k 0 = x := ⟨_, rfl⟩
        rw [hx] at hcell htk
        have HKP := Lib.hid (filter_snoc (keepP lf rt L.length) (p.take k) x)
        rw [← htk, ← HO.out] at HKP
        clear hvc hx htk
        by_cases g1 : lf ≤ x
        · by_cases g2 : x ≤ (L.length : Int) - rt
          · have hkp : keepP lf rt L.length x = true := by unfold keepP; simp [g1, g2]
            have HK2 := Lib.hid (show out ++ [x] = (p.take (k + 1)).filter (keepP lf rt L.length) from by rw [HKP.out, if_pos hkp])
            clear hkp
            go_wp2_with (at_builtin; refine wpList_append_own_at _ rfl _ _ 26 rfl w3.heap.size 3 i0 (.int .i64 0) 1 8 Tryd.underlying26 hi hz0 hz1 hz2 rfl (by decide) u11 out.length (out.map (Value.int .i64)) rfl (World.ownsRow.alloc HR.out _) ⟨wr.heap.size, 0, none⟩ 1 1 [.int .i64 x] rfl rfl (cell_one_new _ _ _) (by intro u hu; simp at hu; subst hu; rfl) (by unfold maxLen; omega) (by omega) (by simp; omega) ?_; intro pv3 w5 hown hg _ hat; obtain ⟨s1, _, _, s4, s5⟩ := row_app (u := .slice none 0 0) (m := []) (IntRow.nil _ w3.heap.size) (fun g _ => by simp [Value.ownBlock]) hown rfl hg hat; have S1 := Lib.hid s1; have S4 := Lib.hid (s4.toBelow (B := w3.heap.size) (fun i hi => row_base HR.out i (by simpa using hi)) (by omega)); clear s1 s4 hown hg hat)
            exact ⟨⟨k + 1, out ++ [x], hlk, by go_num, HK2, by simp; omega, S1, Lib.hid (HB.out.trans S4.out)⟩, by simp [intOf]; omega⟩
          · have hkp : keepP lf rt L.length x = false := by unfold keepP; simp [g2]
            have HK2 := Lib.hid (show out = (p.take (k + 1)).filter (keepP lf rt L.length) from by rw [HKP.out, if_neg (by rw [hkp]; simp), List.append_nil])
            clear hkp
            go_wp2_with fail
            exact ⟨⟨k + 1, out, hlk, by go_num, HK2, by omega, HR, HB⟩, by simp [intOf]; omega⟩
        · have hkp : keepP lf rt L.length x = false := by unfold keepP; simp [g1]
          have HK2 := Lib.hid (show out = (p.take (k + 1)).filter (keepP lf rt L.length) from by rw [HKP.out, if_neg (by rw [hkp]; simp), List.append_nil])
          clear hkp
          go_wp2_with fail
          exact ⟨⟨k + 1, out, hlk, by go_num, HK2, by omega, HR, HB⟩, by simp [intOf]; omega⟩
      · have hke : k = p.length := by omega
        subst hke
        have HO2 := Lib.hid (show out = pointsP st (foldP t) from by rw [HPS.out, HLF.out, HRT.out, HO.out, List.take_length])
        go_wp2_with fail
        refine bodyPost_ret (v := u11) (by simp [results, Tryd.f15, go_sem]) rfl ⟨_, rfl, HW3.out.trans (HB.out.mono hsS), by rw [← HO2.out]; exact IntRow.weak HR.out hsS⟩
  | none =>
    have HEX := Lib.hid hex
    clear hex
    have HPS := Lib.hid (pointsP_none HWP.out HEX.out)
    go_enter Tryd.func15, Tryd.ntmps15
    go_wp2_with (go_at_call 35; refine (HW.out _).mono ?_; unfold WordYes; rintro e w1 ⟨ao, cap, rfl, hb1, hr1⟩; have c2 := (hb1.cell (p := ⟨hb, 2, none⟩) hlt).trans c2; have hlt1 := Nat.lt_of_lt_of_le hlt hb1.size; have HB1 := Lib.hid hb1; clear hb1)
    go_region_held3 (fun w' => w'.cell? ⟨hb, 2, none⟩ = some (Value.map (some eb)))
      (first | go_keep)
      (first
        | (go_at_call 29; refine (fold_at t (by omega) _).mono ?_; rintro e w3 ⟨rfl, hb3⟩; obtain ⟨v, hl, hv, hvn⟩ := ((((HX.out.below HB1.out).drewN _).below hb3)).look (foldP t) (by omega); rw [HEX.out] at hl hv; have t0 := (hb3.cell (p := ⟨hb, 2, none⟩) hlt1).trans c2; have HB3 : Hid (Below w1.heap.size w1 w3) := Lib.hid (below_undrewN hb3); have HV := Lib.hid hv; have HVN := Lib.hid hvn; clear hb3 hv hvn))
    have HB13 := Lib.hid (HB1.out.trans (HB3.out.mono HB1.out.size))
    clear c2 t0 hl
    obtain rfl := HVN.out HEX.out
    clear HV HVN
    have HH3 := Lib.hid (HH.out.below HB13.out)
    obtain ⟨LV, hLV⟩ : ∃ LV, levelsP st.pats L = LV := ⟨_, rfl⟩
    have hll : LV.length = L.length + 1 := by rw [← hLV]; exact levelsP_len _ _
    have HLV := Lib.hid hLV
    clear hLV
    go_wp2_with (go_at_call 14; refine (levels_yes HH3.out HWP.out ht HG.out.ok).mono ?_; rw [HLV.out]; unfold LevPost; rintro e w4 ⟨lv, rfl, hb4, hr4⟩; obtain ⟨lao, lcap, rfl⟩ := row_slice hr4; have HR4 := Lib.hid hr4; have HB4 := Lib.hid hb4; clear hb4 hr4)
    have hs13 := HB13.out.size
    go_loopw [7, 38] (fun pv i wr => ∃ (k : Nat) (ps : List Int), k ≤ LV.length ∧ i = .int .i64 (k : Int) ∧ Hid (ps = oddsG 0 (LV.take k)) ∧ ps.length ≤ k ∧ Hid (IntRow wr w4.heap.size pv ps) ∧ Hid (Below w4.heap.size w4 wr)) (fun _ i _ => LV.length - (intOf i).toNat)
    case atStart => exact ⟨0, [], Nat.zero_le _, rfl, Lib.hid rfl, Nat.zero_le _, Lib.hid (int_nil _ _), Lib.hid (Below.refl _ _)⟩
    case round =>
      obtain ⟨k, ps, hk, rfl, HO, hol, HR, HB⟩ := hrel
      have hrs := HB.out.size
      by_cases hlk : k < LV.length
      · obtain ⟨vb, vo, rfl, hvlt, hvc, hvl, hvm⟩ := ints_pos (Ints.of_owns HR4.out) (by omega)
        have hcell := (HB.out.cell (p := ⟨vb, vo + k, none⟩) hvlt).trans (hvc k hlk)
        have htk := take_snoc LV 0 k hlk
        obtain ⟨x, hx⟩ : ∃ x, LV.getD k 0 = x := ⟨_, rfl⟩
        rw [hx] at hcell htk
        have hkp := oddsG_snoc (LV.take k) x 0
        rw [← htk, ← HO.out, List.length_take, Nat.zero_add, show min k LV.length = k from by omega] at hkp
        have HKP := Lib.hid hkp
        clear hvc hx htk hkp
        by_cases g1 : Int.tmod x 2 = 1
        · have HK2 := Lib.hid (show ps ++ [(k : Int)] = oddsG 0 (LV.take (k + 1)) from by rw [HKP.out, if_pos g1])
          have g2 : decide (Int.tmod x 2 = 1) = true := by simp [g1]
          go_wp2_with (at_builtin; refine wpList_append_own_at _ rfl _ _ 26 rfl w4.heap.size 3 i0 (.int .i64 0) 1 8 Tryd.underlying26 hi hz0 hz1 hz2 rfl (by decide) u7 ps.length (ps.map (Value.int .i64)) rfl (World.ownsRow.alloc HR.out _) ⟨wr.heap.size, 0, none⟩ 1 1 [.int .i64 (k : Int)] rfl rfl (cell_one_new _ _ _) (by intro u hu; simp at hu; subst hu; rfl) (by unfold maxLen; omega) (by omega) (by simp; omega) ?_; intro pv3 w5 hown hg _ hat; obtain ⟨s1, _, _, s4, s5⟩ := row_app (u := .slice none 0 0) (m := []) (IntRow.nil _ w4.heap.size) (fun g _ => by simp [Value.ownBlock]) hown rfl hg hat; have S1 := Lib.hid s1; have S4 := Lib.hid (s4.toBelow (B := w4.heap.size) (fun i hi => row_base HR.out i (by simpa using hi)) (by omega)); clear s1 s4 hown hg hat)
          exact ⟨⟨k + 1, ps ++ [(k : Int)], hlk, by go_num, HK2, by simp; omega, S1, Lib.hid (HB.out.trans S4.out)⟩, by simp [intOf]; omega⟩
        · have HK2 := Lib.hid (show ps = oddsG 0 (LV.take (k + 1)) from by rw [HKP.out, if_neg g1, List.append_nil])
          have g2 : decide (Int.tmod x 2 = 1) = false := by simp [g1]
          go_wp2_with fail
          exact ⟨⟨k + 1, ps, hlk, by go_num, HK2, by omega, HR, HB⟩, by simp [intOf]; omega⟩
      · have hke : k = LV.length := by omega
        subst hke
        obtain ⟨wz, rfl⟩ : ∃ wz, wz = wr := ⟨_, rfl⟩
        obtain ⟨pao, pcap, rfl⟩ := row_slice HR.out
        have HPS := Lib.hid (show pointsP st (foldP t) = ps.filter (keepP st.left st.right L.length) from by rw [HPS.out, HLV.out, HO.out, List.take_length])
        have HVR := HR
        have HWZ := Lib.hid ((HB13.out.trans (HB4.out.mono hs13)).trans (HB.out.mono (by have := HB4.out.size; omega)))
        have hp65 : ps.length ≤ 65 := by omega
        clear HR HB HO
        go_wp2_with fail
        clear hol hk hlk hrs HLV hll
        have d3 := (HWZ.out.cell (p := ⟨hb, 3, none⟩) hlt).trans c3
        have d4 := (HWZ.out.cell (p := ⟨hb, 4, none⟩) hlt).trans c4
        have hltS := Nat.lt_of_lt_of_le hlt HWZ.out.size
        have hsS := HWZ.out.size
        go_loopw [11, 53] (fun ov i wr => ∃ (k : Nat) (out : List Int), k ≤ ps.length ∧ i = .int .i64 (k : Int) ∧ Hid (out = (ps.take k).filter (keepP lf rt L.length)) ∧ out.length ≤ k ∧ Hid (IntRow wr wz.heap.size ov out) ∧ Hid (Below wz.heap.size wz wr)) (fun _ i _ => ps.length - (intOf i).toNat)
        case atStart => exact ⟨0, [], Nat.zero_le _, rfl, Lib.hid rfl, Nat.zero_le _, Lib.hid (int_nil _ _), Lib.hid (Below.refl _ _)⟩
        case round =>
          obtain ⟨k, out, hk, rfl, HO, hol, HR, HB⟩ := hrel
          have hrs := HB.out.size
          by_cases hlk : k < ps.length
          · obtain ⟨vb, vo, rfl, hvlt, hvc, hvl, hvm⟩ := ints_pos (Ints.of_owns HVR.out) (by omega)
            have hcell := (HB.out.cell (p := ⟨vb, vo + k, none⟩) hvlt).trans (hvc k hlk)
            have d3 := (HB.out.cell (p := ⟨hb, 3, none⟩) hltS).trans d3
            have d4 := (HB.out.cell (p := ⟨hb, 4, none⟩) hltS).trans d4
            have htk := take_snoc ps 0 k hlk
            obtain ⟨x, hx⟩ : ∃ x, ps.getD k 0 = x := ⟨_, rfl⟩
            rw [hx] at hcell htk
            have HKP := Lib.hid (filter_snoc (keepP lf rt L.length) (ps.take k) x)
            rw [← htk, ← HO.out] at HKP
            clear hvc hx htk
            by_cases g1 : lf ≤ x
            · by_cases g2 : x ≤ (L.length : Int) - rt
              · have hkp : keepP lf rt L.length x = true := by unfold keepP; simp [g1, g2]
                have HK2 := Lib.hid (show out ++ [x] = (ps.take (k + 1)).filter (keepP lf rt L.length) from by rw [HKP.out, if_pos hkp])
                clear hkp
                go_wp2_with (at_builtin; refine wpList_append_own_at _ rfl _ _ 26 rfl wz.heap.size 3 i0 (.int .i64 0) 1 8 Tryd.underlying26 hi hz0 hz1 hz2 rfl (by decide) u11 out.length (out.map (Value.int .i64)) rfl (World.ownsRow.alloc HR.out _) ⟨wr.heap.size, 0, none⟩ 1 1 [.int .i64 x] rfl rfl (cell_one_new _ _ _) (by intro u hu; simp at hu; subst hu; rfl) (by unfold maxLen; omega) (by omega) (by simp; omega) ?_; intro pv3 w5 hown hg _ hat; obtain ⟨s1, _, _, s4, s5⟩ := row_app (u := .slice none 0 0) (m := []) (IntRow.nil _ wz.heap.size) (fun g _ => by simp [Value.ownBlock]) hown rfl hg hat; have S1 := Lib.hid s1; have S4 := Lib.hid (s4.toBelow (B := wz.heap.size) (fun i hi => row_base HR.out i (by simpa using hi)) (by omega)); clear s1 s4 hown hg hat)
                exact ⟨⟨k + 1, out ++ [x], hlk, by go_num, HK2, by simp; omega, S1, Lib.hid (HB.out.trans S4.out)⟩, by simp [intOf]; omega⟩
              · have hkp : keepP lf rt L.length x = false := by unfold keepP; simp [g2]
                have HK2 := Lib.hid (show out = (ps.take (k + 1)).filter (keepP lf rt L.length) from by rw [HKP.out, if_neg (by rw [hkp]; simp), List.append_nil])
                clear hkp
                go_wp2_with fail
                exact ⟨⟨k + 1, out, hlk, by go_num, HK2, by omega, HR, HB⟩, by simp [intOf]; omega⟩
            · have hkp : keepP lf rt L.length x = false := by unfold keepP; simp [g1]
              have HK2 := Lib.hid (show out = (ps.take (k + 1)).filter (keepP lf rt L.length) from by rw [HKP.out, if_neg (by rw [hkp]; simp), List.append_nil])
              clear hkp
              go_wp2_with fail
              exact ⟨⟨k + 1, out, hlk, by go_num, HK2, by omega, HR, HB⟩, by simp [intOf]; omega⟩
          · have hke : k = ps.length := by omega
            subst hke
            have HO2 := Lib.hid (show out = pointsP st (foldP t) from by rw [HPS.out, HLF.out, HRT.out, HO.out, List.take_length])
            go_wp2_with fail
            refine bodyPost_ret (v := u11) (by simp [results, Tryd.f15, go_sem]) rfl ⟨_, rfl, HWZ.out.trans (HB.out.mono hsS), by rw [← HO2.out]; exact IntRow.weak HR.out hsS⟩
end Go.Proofs.YtdcdlmigagjbiaaDoor
