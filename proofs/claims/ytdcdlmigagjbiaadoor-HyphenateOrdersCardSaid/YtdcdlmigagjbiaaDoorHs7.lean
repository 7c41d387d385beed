/- The law's own points walked. -/
import Derived.Test.YtdcdlmigagjbiaaDoorHq1
import Derived.Test.YtdcdlmigagjbiaaDoorHs6
import Derived.Deep.DeepCutAuto
import Derived.Deep.QuietTactic
import Derived.BigQuiet
import Derived.IntWalk
namespace Go.Proofs.YtdcdlmigagjbiaaDoor
open Go.RowKit Go.Maps
theorem fold_step {exs : List (List UInt8)} {k : Nat} (hk : k < exs.length) {wd : List UInt8} {ps : List Int} {ok : Bool} (h : exP (foldP (exs.getD k [])) = (wd, ps, ok)) (f : List UInt8) (l : List Int) :
    (exLook ((exs.take (k + 1)).map exOf) f).getD l = if wd = f then ps else (exLook ((exs.take k).map exOf) f).getD l := by
  rw [take_snoc exs [] k hk, List.map_append, List.map_cons, List.map_nil, show exOf (exs.getD k []) = (wd, ps) from by unfold exOf; rw [h], exLook_snoc]
  split <;> rfl
theorem pointsP_all (st : HS) {t : List UInt8} {L : List Int} (h : wordP t = some L) : pointsP st t = ((exLook st.exs t).getD (oddsG 0 (levelsP st.pats L))).filter (keepP st.left st.right L.length) := by
  unfold pointsP allP; rw [h]
  cases exLook st.exs t <;> rfl
set_option maxRecDepth 100000 in
set_option maxHeartbeats 16000000 in
theorem dpoints_any (D : DictV) (w : World) (H : D.At w) (t : List UInt8) (ht : t.length ≤ 100000000) (hpl : ∀ s, s ∈ D.pats → s.length ≤ 1000000) (hel : ∀ s, s ∈ D.exs → s.length ≤ 1000000) (h0 : newE D.pats D.exs D.left D.right = 0) :
    Calls Tryd.prog 33 #[D.val, .string ⟨t.toArray⟩] w (LevPost (pointsP (newS D.pats D.exs D.left D.right) (foldP t)) w) := by
  obtain ⟨i0, hi, hz0, hz1, hz2⟩ := info_parts int_info
  have HDL := Lib.hid (fun (w : World) (h : D.At w) (L : List Int) (lv : Value) (hL : Ints w lv L) (h1 : 0 < L.length) (h2 : L.length ≤ 64) => dlevels_any D w h L lv hL h1 h2 hpl (fun s hs => fe_zero (newE_zero h0).2.2.1 s hs) (newE_zero h0).1)
  obtain ⟨pv, ev, pats, exs, left, right⟩ := D
  obtain ⟨hl1, hl64, hr1, hr64⟩ := rangeB_no (newE_zero h0).2.2.2.2.2
  have hen : exs.length ≤ 4096 := (newE_zero h0).2.1
  obtain ⟨_, he0, _, _⟩ := id H
  have he : Strs w ev exs := he0
  have hel' : ∀ s, s ∈ exs → s.length ≤ 1000000 := hel
  show Calls Tryd.prog 33 #[.agg #[pv, ev, .int .i64 left, .int .i64 right], .string ⟨t.toArray⟩] w (LevPost (pointsP (newS pats exs left right) (foldP t)) w)
  have HEL := Lib.hid hel'
  have HES := Lib.hid he
  have hl1 : 1 ≤ left := hl1
  have hl64 : left ≤ 64 := hl64
  have hr1 : 1 ≤ right := hr1
  have hr64 : right ≤ 64 := hr64
  have HH := Lib.hid H
  clear he he0 hel hel' hpl h0 H
  obtain ⟨eao, ecap, hev, _⟩ := id HES.out
  subst hev
  have HBK := Lib.hid (Blk.new w 44 #[pv, .slice eao exs.length ecap, .int .i64 left, .int .i64 right])
  have HBW := Lib.hid ((Below.refl w.heap.size w).alloc (Nat.le_refl _) (.cells #[pv, .slice eao exs.length ecap, .int .i64 left, .int .i64 right] 44))
  obtain ⟨W, hW⟩ : ∃ W, w.alloc (.cells #[pv, .slice eao exs.length ecap, .int .i64 left, .int .i64 right] 44) = W := ⟨_, rfl⟩
  rw [hW] at HBK HBW
  have hws := HBW.out.size
  cases hw : wordP (foldP t) with
  | none =>
    have HP := Lib.hid (points_none (newS pats exs left right) hw)
    have HF := Lib.hid (fun w => folded_no hw ht w)
    clear hw
    go_enter Tryd.func33, Tryd.ntmps33
    go_wp2_with (go_at_call 30; refine (HF.out _).mono ?_; unfold WordNo; rintro e w1 ⟨v, rfl, hb1⟩)
    refine bodyPost_ret (v := .slice none 0 0) (by simp [results, Tryd.f33, go_sem]) rfl ⟨_, rfl, HBW.out.trans (hb1.mono hws), by rw [HP.out]; exact int_nil _ _⟩
  | some L =>
    have HP := Lib.hid (pointsP_all (newS pats exs left right) hw)
    have HF := Lib.hid (fun w => folded_yes hw ht w)
    obtain ⟨_, _, hLp, hL64⟩ := wordP_some hw
    have HFD := Lib.hid (fun w => fold_at t (by omega) w)
    obtain ⟨f, hf⟩ : ∃ f, foldP t = f := ⟨_, rfl⟩
    rw [hf] at HFD HP
    have HFF := Lib.hid hf
    obtain ⟨LV, hLV⟩ : ∃ LV, levelsP (pats.map fun s => (parseP s).2) L = LV := ⟨_, rfl⟩
    have hll : LV.length ≤ L.length + 1 := by rw [← hLV]; exact Nat.le_of_eq (levelsP_len _ _)
    have HLV := Lib.hid hLV
    clear hw hf hLV
    go_enter Tryd.func33, Tryd.ntmps33
    go_wp2_with (first
      | (go_at_call 30; refine (HF.out _).mono ?_; unfold WordYes; rintro e w1 ⟨ao, cap, rfl, hb1, hr1⟩; have HB1 := Lib.hid (HBW.out.trans (hb1.mono hws)); have HR1 := Lib.hid (Ints.of_owns hr1.out); obtain ⟨c0, c1, c2, c3⟩ := (HBK.out.below hb1 HBK.out.lt).four; have HK1 := Lib.hid (HBK.out.below hb1 HBK.out.lt); clear hb1 hr1)
      | (go_at_call 32; refine (HDL.out _ (HH.out.below HB1.out) L _ HR1.out hLp hL64).mono ?_; unfold LevPost; rintro e w4 ⟨lv, rfl, hb4, hr4⟩; have HR4 := Lib.hid (show IntRow w4 _ lv LV from (by have h := hr4; rw [← HLV.out]; exact h)); have HB4 := Lib.hid (HB1.out.trans (hb4.mono HB1.out.size)); have HK4 := Lib.hid (HK1.out.below hb4 HK1.out.lt); clear hr4 hb4; obtain ⟨lao, lcap, rfl⟩ := row_slice HR4.out))
    have hs4 := HB4.out.size
    have hkl4 := HK4.out.lt
    clear c0 c1 c2 c3
    go_loopw [7, 10] (fun pv i wr => ∃ (k : Nat) (ps : List Int), k ≤ LV.length ∧ i = .int .i64 (k : Int) ∧ Hid (ps = oddsG 0 (LV.take k)) ∧ ps.length ≤ k ∧ Hid (IntRow wr w4.heap.size pv ps) ∧ Hid (Below w4.heap.size w4 wr)) (fun _ i _ => LV.length - (intOf i).toNat)
    case atStart => exact ⟨0, [], Nat.zero_le _, rfl, Lib.hid rfl, Nat.zero_le _, Lib.hid (int_nil _ _), Lib.hid (Below.refl _ _)⟩
    case round =>
      obtain ⟨k, ps, hk, rfl, HO, hol, HR, HB⟩ := hrel
      have hrs := HB.out.size
      by_cases hlk : k < LV.length
      · obtain ⟨vb, vo, rfl, hvlt, hvc, hvl, hvm⟩ := ints_pos (Ints.of_owns HR4.out) (by omega)
        have hcell := (HB.out.cell (p := ⟨vb, vo + k, none⟩) hvlt).trans (hvc k hlk)
        have htk := take_snoc LV 0 k hlk
        obtain ⟨x, hx⟩ : ∃ x, LV.getD k 0 = x := ⟨_, rfl⟩
        rw [hx] at hcell htk
        have hkp := oddsG_snoc (LV.take k) x 0
        rw [← htk, ← HO.out, List.length_take, Nat.zero_add, show min k LV.length = k from by omega] at hkp
        have HKP := Lib.hid hkp
        clear hvc hx htk hkp
        by_cases g1 : Int.tmod x 2 = 1
        · have HK2 := Lib.hid (show ps ++ [(k : Int)] = oddsG 0 (LV.take (k + 1)) from by rw [HKP.out, if_pos g1])
          have g2 : decide (Int.tmod x 2 = 1) = true := by simp [g1]
          go_wp2_with (at_builtin; refine wpList_append_own_at _ rfl _ _ 26 rfl w4.heap.size 3 i0 (.int .i64 0) 1 8 Tryd.underlying26 hi hz0 hz1 hz2 rfl (by decide) u7 ps.length (ps.map (Value.int .i64)) rfl (World.ownsRow.alloc HR.out _) ⟨wr.heap.size, 0, none⟩ 1 1 [.int .i64 (k : Int)] rfl rfl (cell_one_new _ _ _) (by intro u hu; simp at hu; subst hu; rfl) (by unfold maxLen; omega) (by omega) (by simp; omega) ?_; intro pv3 w5 hown hg _ hat; obtain ⟨s1, _, _, s4, s5⟩ := row_app (u := .slice none 0 0) (m := []) (IntRow.nil _ w4.heap.size) (fun g _ => by simp [Value.ownBlock]) hown rfl hg hat; have S1 := Lib.hid s1; have S4 := Lib.hid (s4.toBelow (B := w4.heap.size) (fun i hi => row_base HR.out i (by simpa using hi)) (by omega)); clear s1 s4 hown hg hat)
          exact ⟨⟨k + 1, ps ++ [(k : Int)], hlk, by go_num, HK2, by simp; omega, S1, Lib.hid (HB.out.trans S4.out)⟩, by simp [intOf]; omega⟩
        · have HK2 := Lib.hid (show ps = oddsG 0 (LV.take (k + 1)) from by rw [HKP.out, if_neg g1, List.append_nil])
          have g2 : decide (Int.tmod x 2 = 1) = false := by simp [g1]
          go_wp2_with fail
          exact ⟨⟨k + 1, ps, hlk, by go_num, HK2, by omega, HR, HB⟩, by simp [intOf]; omega⟩
      · have hke : k = LV.length := by omega
        subst hke
        obtain ⟨OD, hOD⟩ : ∃ OD, oddsG 0 LV = OD := ⟨_, rfl⟩
        have HOD := Lib.hid hOD
        have hps : ps = OD := by rw [← hOD, HO.out, List.take_length]
        subst hps
        clear hOD HO
        go_wp2_with fail
        go_loopw [7, 11] (fun av i wr => ∃ (k : Nat) (al : List Int), k ≤ exs.length ∧ i = .int .i64 (k : Int) ∧ Hid (al = (exLook ((exs.take k).map exOf) f).getD ps) ∧ al.length ≤ 1000000 ∧ Hid (IntRow wr w4.heap.size av al) ∧ Hid (Below w4.heap.size w4 wr)) (fun _ i _ => exs.length - (intOf i).toNat)
        case atStart => exact ⟨0, ps, Nat.zero_le _, rfl, Lib.hid rfl, by omega, HR, HB⟩
        case round =>
          clear HR HB hrs
          obtain ⟨k, al, hk, rfl, HO, hal, HR, HB⟩ := hrel
          have hrs := HB.out.size
          have HBT := Lib.hid (HB4.out.trans (HB.out.mono hs4))
          obtain ⟨c0, c1, c2, c3⟩ := (HK4.out.below HB.out hkl4).four
          by_cases hlk : k < exs.length
          · obtain ⟨pb, poff, rfl, hcell⟩ := strs_at HES.out HBT.out hlk
            have HM := Lib.hid (getD_in (d := []) hlk)
            have HST := Lib.hid (fun wd ps ok h l => fold_step hlk (wd := wd) (ps := ps) (ok := ok) h f l)
            obtain ⟨s, hs⟩ : ∃ s, exs.getD k [] = s := ⟨_, rfl⟩
            rw [hs] at hcell HM HST
            have hsl := HEL.out s HM.out
            have HXC := Lib.hid (fun w => exception2_any s (by omega) w)
            unfold ExPost at HXC
            have hxl := exP_plen (foldP s)
            rw [foldP_len] at hxl
            obtain ⟨wd, qs, ok, hx⟩ : ∃ wd ps ok, exP (foldP s) = (wd, ps, ok) := ⟨_, _, _, rfl⟩
            rw [hx] at HXC hxl
            have hxl2 : qs.length ≤ s.length := hxl
            have hst := HST.out wd qs ok hx ps
            rw [← HO.out] at hst
            have HST2 := Lib.hid hst
            clear hs hx hst hxl
            by_cases hq : wd = f
            · have e1 : (wd == f) = true := by rw [beq_iff_eq]; exact hq
              have e2 : ((⟨wd.toArray⟩ : ByteArray).toList == (⟨f.toArray⟩ : ByteArray).toList) = true := seq_t (by rw [hq])
              have HK2 := Lib.hid (show qs = (exLook ((exs.take (k + 1)).map exOf) f).getD ps by rw [HST2.out, if_pos hq])
              clear hq
              go_wp2_with (first
                | (go_at_call 31; refine (HXC.out _).mono ?_; rintro e w5 ⟨pv2, rfl, hb5, hr5⟩; have hs5 := hb5.size; have HB5 := Lib.hid (HB.out.trans (hb5.mono hrs)); have HR5 := Lib.hid hr5; clear hb5 hr5)
                | (go_at_call 29; refine (HFD.out _).mono ?_; rintro e w6 ⟨rfl, hb6⟩; have HB6 := Lib.hid (HB5.out.trans (hb6.mono (by omega))); have HR6 := Lib.hid (IntRow.weak (row_turn HR5.out (Turn.ofBelow (F := []) hb6 (Nat.le_refl _)) (fun _ _ => by simp)) hrs); clear hb6))
              exact ⟨⟨k + 1, qs, hlk, by go_num, HK2, by omega, HR6, HB6⟩, by simp [intOf]; omega⟩
            · have e1 : (wd == f) = false := by rw [beq_eq_false_iff_ne]; exact hq
              have e2 : ((⟨wd.toArray⟩ : ByteArray).toList == (⟨f.toArray⟩ : ByteArray).toList) = false := seq_f (fun e => hq (by have := congrArg (fun b : ByteArray => b.data.toList) e; exact this))
              have HK2 := Lib.hid (show al = (exLook ((exs.take (k + 1)).map exOf) f).getD ps by rw [HST2.out, if_neg hq])
              clear hq
              go_wp2_with (first
                | (go_at_call 31; refine (HXC.out _).mono ?_; rintro e w5 ⟨pv2, rfl, hb5, hr5⟩; have hs5 := hb5.size; have HB5 := Lib.hid (HB.out.trans (hb5.mono hrs)); have HR5 := Lib.hid (row_turn HR.out (Turn.ofBelow (F := []) hb5 (Nat.le_refl _)) (fun _ _ => by simp)); clear hb5 hr5)
                | (go_at_call 29; refine (HFD.out _).mono ?_; rintro e w6 ⟨rfl, hb6⟩; have HB6 := Lib.hid (HB5.out.trans (hb6.mono (by omega))); have HR6 := Lib.hid (row_turn HR5.out (Turn.ofBelow (F := []) hb6 (Nat.le_refl _)) (fun _ _ => by simp)); clear hb6))
              exact ⟨⟨k + 1, al, hlk, by go_num, HK2, by omega, HR6, HB6⟩, by simp [intOf]; omega⟩
          · have hke : k = exs.length := by omega
            subst hke
            have HAL := Lib.hid (show pointsP (newS pats exs left right) f = al.filter (keepP left right L.length) by
              rw [HP.out, HO.out, List.take_length, ← HOD.out, ← HLV.out]; rfl)
            obtain ⟨wz, rfl⟩ : ∃ wz, wz = wr := ⟨_, rfl⟩
            have HVR := HR
            have HBZ := HBT
            obtain ⟨aao, acap, rfl⟩ := row_slice HR.out
            have HKZ := Lib.hid (HK4.out.below HB.out hkl4)
            have hkz := HKZ.out.lt
            have d8 : decide (exs.length < exs.length) = false := by simp
            clear HR HB HO HBT
            go_wp2_with fail
            clear c0 c1 c2 c3
            go_loopw [8, 15] (fun ov i wr => ∃ (k : Nat) (out : List Int), k ≤ al.length ∧ i = .int .i64 (k : Int) ∧ Hid (out = (al.take k).filter (keepP left right L.length)) ∧ out.length ≤ k ∧ Hid (IntRow wr wz.heap.size ov out) ∧ Hid (Below wz.heap.size wz wr)) (fun _ i _ => al.length - (intOf i).toNat)
            case atStart => exact ⟨0, [], Nat.zero_le _, rfl, Lib.hid rfl, Nat.zero_le _, Lib.hid (int_nil _ _), Lib.hid (Below.refl _ _)⟩
            case round =>
              obtain ⟨k, out, hk, rfl, HO, hol, HR, HB⟩ := hrel
              have hrs := HB.out.size
              obtain ⟨c0, c1, c2, c3⟩ := (HKZ.out.below HB.out hkz).four
              by_cases hlk : k < al.length
              · obtain ⟨vb, vo, rfl, hvlt, hvc, hvl, hvm⟩ := ints_pos (Ints.of_owns HVR.out) (by omega)
                have hcell := (HB.out.cell (p := ⟨vb, vo + k, none⟩) hvlt).trans (hvc k hlk)
                have htk := take_snoc al 0 k hlk
                obtain ⟨x, hx⟩ : ∃ x, al.getD k 0 = x := ⟨_, rfl⟩
                rw [hx] at hcell htk
                have HKP := Lib.hid (filter_snoc (keepP left right L.length) (al.take k) x)
                rw [← htk, ← HO.out] at HKP
                clear hvc hx htk
                have hml : max (1 : Int) left = left := by omega
                have hmr : max (1 : Int) right = right := by omega
                go_upto_region 20 with fail
                go_cut [90] (fun v w' => v = .bool (keepP left right L.length x) ∧ Below wr.heap.size wr w')
                case first =>
                  have hsub : IntKind.i64.wrap ((L.length : Int) - right) = (L.length : Int) - right := IntWalk.i64_in _ (by omega)
                  by_cases g1 : left ≤ x
                  · have e1 : decide (left ≤ x) = true := by simp [g1]
                    by_cases g2 : x ≤ (L.length : Int) - right
                    · have e2 : decide (x ≤ (L.length : Int) - right) = true := by simp [g2]
                      have hkp : keepP left right L.length x = true := by unfold keepP; rw [e1, e2]; rfl
                      clear g1 g2
                      have HKB := Lib.hid hkp
                      clear hkp
                      go_quiet (fail)
                      go_wp2_with fail
                      go_meet
                      case rel => exact ⟨by rw [HKB.out], below_drewN (Below.refl _ _) _⟩
                    · have e2 : decide (x ≤ (L.length : Int) - right) = false := by simp [g2]
                      have hkp : keepP left right L.length x = false := by unfold keepP; rw [e1, e2]; rfl
                      clear g1 g2
                      have HKB := Lib.hid hkp
                      clear hkp
                      go_quiet (fail)
                      go_wp2_with fail
                      go_meet
                      case rel => exact ⟨by rw [HKB.out], below_drewN (Below.refl _ _) _⟩
                  · have e1 : decide (left ≤ x) = false := by simp [g1]
                    have hkp : keepP left right L.length x = false := by unfold keepP; rw [e1]; rfl
                    clear g1
                    have HKB := Lib.hid hkp
                    clear hkp
                    go_quiet (fail)
                    go_wp2_with fail
                    go_meet
                    case rel => exact ⟨by rw [HKB.out], below_drewN (Below.refl _ _) _⟩
                case rest =>
                  obtain ⟨rfl, hb5⟩ := hcut
                  have hs5 := hb5.size
                  have HB5 := Lib.hid (HB.out.trans (hb5.mono hrs))
                  have HR5 := Lib.hid (row_turn HR.out (Turn.ofBelow (F := []) hb5 (Nat.le_refl _)) (fun _ _ => by simp))
                  have hcell5 := (hb5.cell (p := ⟨vb, vo + k, none⟩) (cell_lt hcell)).trans hcell
                  clear hcell c0 c1 c2 c3 hb5 hml hmr
                  cases hkp : keepP left right L.length x with
                  | true =>
                    have HK2 := Lib.hid (show out ++ [x] = (al.take (k + 1)).filter (keepP left right L.length) from by rw [HKP.out, if_pos hkp])
                    clear hkp
                    go_wp2_with (at_builtin; refine wpList_append_own_at _ rfl _ _ 26 rfl wz.heap.size 3 i0 (.int .i64 0) 1 8 Tryd.underlying26 hi hz0 hz1 hz2 rfl (by decide) u8 out.length (out.map (Value.int .i64)) rfl (World.ownsRow.alloc HR5.out _) ⟨wc.heap.size, 0, none⟩ 1 1 [.int .i64 x] rfl rfl (cell_one_new _ _ _) (by intro u hu; simp at hu; subst hu; rfl) (by unfold maxLen; omega) (by omega) (by simp; omega) ?_; intro pv3 w5 hown hg _ hat; obtain ⟨s1, _, _, s4, s5⟩ := row_app (u := .slice none 0 0) (m := []) (IntRow.nil _ wz.heap.size) (fun g _ => by simp [Value.ownBlock]) hown rfl hg hat; have S1 := Lib.hid s1; have S4 := Lib.hid (s4.toBelow (B := wz.heap.size) (fun i hi => row_base HR5.out i (by simpa using hi)) (by omega)); clear s1 s4 hown hg hat)
                    exact ⟨⟨k + 1, out ++ [x], hlk, by go_num, HK2, by simp; omega, S1, Lib.hid (HB5.out.trans S4.out)⟩, by simp [intOf]; omega⟩
                  | false =>
                    have HK2 := Lib.hid (show out = (al.take (k + 1)).filter (keepP left right L.length) from by rw [HKP.out, if_neg (by rw [hkp]; simp), List.append_nil])
                    clear hkp
                    go_wp2_with fail
                    exact ⟨⟨k + 1, out, hlk, by go_num, HK2, by omega, HR5, HB5⟩, by simp [intOf]; omega⟩
              · have hke : k = al.length := by omega
                subst hke
                have HO2 := Lib.hid (show out = pointsP (newS pats exs left right) f from by rw [HAL.out, HO.out, List.take_length])
                have HFF2 := HFF
                go_wp2_with fail
                refine bodyPost_ret (v := u8) (by simp [results, Tryd.f33, go_sem]) rfl ⟨_, rfl, HBZ.out.trans (HB.out.mono HBZ.out.size), by rw [HFF2.out, ← HO2.out]; exact IntRow.weak HR.out HBZ.out.size⟩
def MadeY (st : HS) (w : World) (e : Ending) (w' : World) : Prop := ∃ hb B, e = .returned (.tuple #[.pointer (some ⟨hb, 0, none⟩), .bool true]) ∧ Below w.heap.size w w' ∧ Hyph w' B hb st
theorem made_yes (D : DictV) (w : World) (H : D.At w) (hpl : ∀ s, s ∈ D.pats → s.length ≤ 100000000) (hel : ∀ s, s ∈ D.exs → s.length ≤ 100000000) (h0 : newE D.pats D.exs D.left D.right = 0) :
    Calls Tryd.prog 27 #[D.val] w (MadeY (newS D.pats D.exs D.left D.right) w) :=
  (made_any D w H hpl hel).mono fun e w' h => by
    obtain ⟨hb, ⟨h1, _⟩ | ⟨_, b, B, h2, h3⟩⟩ := h
    · exact absurd h0 h1
    · exact ⟨b, B, h2, hb, h3⟩
end Go.Proofs.YtdcdlmigagjbiaaDoor
