/- The law's exception walked. -/
import Derived.Test.YtdcdlmigagjbiaaDoorHe1
import Derived.Test.YtdcdlmigagjbiaaDoorHs1
import Derived.Deep.QuietTactic
import Derived.IntWalk
namespace Go.Proofs.YtdcdlmigagjbiaaDoor
open Go.RowKit Go.Maps
set_option maxRecDepth 100000 in
set_option maxHeartbeats 8000000 in
theorem exception2_any (t : List UInt8) (ht : t.length ≤ 100000000) (w : World) :
    Calls Tryd.prog 31 #[.string ⟨t.toArray⟩] w (ExPost (foldP t) w) := by
  obtain ⟨i0, hi, hz0, hz1, hz2⟩ := info_parts int_info
  have hfl := foldP_len t
  have HF := Lib.hid (fun w => fold_at t (by omega) w)
  obtain ⟨f, hf⟩ : ∃ f, foldP t = f := ⟨_, rfl⟩
  rw [hf] at HF hfl ⊢
  clear hf
  cases hb : (U.bad f).isEmpty with
  | false =>
    have HP := Lib.hid (fun w => pts_bad hb (by omega) w)
    have HX := Lib.hid (exP_none (.inl hb))
    clear hb
    go_enter Tryd.func31, Tryd.ntmps31
    go_wp2_with (first
      | (go_at_call 29; refine (HF.out _).mono ?_; rintro e w1 ⟨rfl, hb1⟩; have hs1 := hb1.size)
      | (go_at_call 38; refine (HP.out _).mono ?_; rintro e w2 ⟨rfl, hb2⟩))
    refine bodyPost_ret (v := .tuple #[.string ⟨#[]⟩, .slice none 0 0, .bool false]) (by simp [results, Tryd.f31, go_sem]) rfl (exPost_no HX.out (hb1.trans (hb2.mono hs1)))
  | true =>
    have HP := Lib.hid (fun w => pts_ok hb (by omega) w)
    have HXN := Lib.hid (fun h => exP_none (t := f) (.inr h))
    have HXY := Lib.hid (fun h => exP_some (t := f) hb h)
    have HOK := Lib.hid (okI_pts f)
    have hlen : (ptsI f).length ≤ f.length := pts_len0 ⟨f.toArray⟩
    obtain ⟨L, hL⟩ : ∃ L, ptsI f = L := ⟨_, rfl⟩
    rw [hL] at HP HXN HXY HOK hlen
    clear hb hL
    by_cases h0 : L.length = 0
    · have HX := Lib.hid (HXN.out (by rw [List.eq_nil_of_length_eq_zero h0]; rfl))
      have d0 : (L.length = 0) = True := by simp [h0]
      go_enter Tryd.func31, Tryd.ntmps31
      go_wp2_with (first
        | (go_at_call 29; refine (HF.out _).mono ?_; rintro e w1 ⟨rfl, hb1⟩; have hs1 := hb1.size)
        | (go_at_call 38; refine (HP.out _).mono ?_; rintro e w2 ⟨ao, cap, rfl, hb2, hrow⟩))
      refine bodyPost_ret (v := .tuple #[.string ⟨#[]⟩, .slice none 0 0, .bool false]) (by simp [results, Tryd.f31, go_sem]) rfl (exPost_no HX.out (hb1.trans (hb2.mono hs1)))
    · have hpos : 0 < L.length := by omega
      have d0 : (((L.length : Nat) : Int) == 0) = false := by rw [beq_eq_false_iff_ne]; omega
      obtain ⟨x, hx⟩ : ∃ x, L.getD 0 0 = x := ⟨_, rfl⟩
      have HX0 := Lib.hid hx
      obtain ⟨y, hy⟩ : ∃ y, L.getD (L.length - 1) 0 = y := ⟨_, rfl⟩
      have HY0 := Lib.hid hy
      clear hx hy
      have zh1 : (0 : Int) ≤ (L.length : Int) - 1 := by omega
      have zh2 : (L.length : Int) - 1 < (L.length : Int) := by omega
      have zh3 : ((L.length : Int) - 1).toNat = L.length - 1 := by omega
      have zw : IntKind.i64.wrap ((L.length : Int) - 1) = (L.length : Int) - 1 := IntWalk.i64_in _ (by omega)
      by_cases hx45 : x = 45
      · have e0 : (x == 45) = true := by simp [hx45]
        have HX := Lib.hid (HXN.out (okD_first hpos (by rw [HX0.out]; exact hx45)))
        go_enter Tryd.func31, Tryd.ntmps31
        go_wp2_with (first
          | (go_at_call 29; refine (HF.out _).mono ?_; rintro e w1 ⟨rfl, hb1⟩; have hs1 := hb1.size)
          | (go_at_call 38; refine (HP.out _).mono ?_; rintro e w2 ⟨ao, cap, rfl, hb2, hrow⟩; obtain ⟨b, off, rfl, hblt, hcl, hlc, hcm⟩ := ints_pos (Ints.of_owns hrow.out) hpos; have hc0 := hcl 0 hpos; rw [HX0.out, Nat.add_zero] at hc0; clear hcl))
        refine bodyPost_ret (v := .tuple #[.string ⟨#[]⟩, .slice none 0 0, .bool false]) (by simp [results, Tryd.f31, go_sem]) rfl (exPost_no HX.out (hb1.trans (hb2.mono hs1)))
      · have e0 : (x == 45) = false := by simp [hx45]
        by_cases hy45 : y = 45
        · have e1 : (y == 45) = true := by simp [hy45]
          have HX := Lib.hid (HXN.out (okD_tail hpos (by rw [HY0.out]; exact hy45)))
          go_enter Tryd.func31, Tryd.ntmps31
          go_wp2_with (first
            | (go_at_call 29; refine (HF.out _).mono ?_; rintro e w1 ⟨rfl, hb1⟩; have hs1 := hb1.size)
            | (go_at_call 38; refine (HP.out _).mono ?_; rintro e w2 ⟨ao, cap, rfl, hb2, hrow⟩; obtain ⟨b, off, rfl, hblt, hcl, hlc, hcm⟩ := ints_pos (Ints.of_owns hrow.out) hpos; have hc0 := hcl 0 hpos; rw [HX0.out, Nat.add_zero] at hc0; have hcY := hcl (L.length - 1) (by omega); rw [HY0.out] at hcY; clear hcl))
          refine bodyPost_ret (v := .tuple #[.string ⟨#[]⟩, .slice none 0 0, .bool false]) (by simp [results, Tryd.f31, go_sem]) rfl (exPost_no HX.out (hb1.trans (hb2.mono hs1)))
        · have e1 : (y == 45) = false := by simp [hy45]
          have HEND := Lib.hid (okD_end hpos (by rw [HY0.out]; exact hy45))
          have HN0 := Lib.hid (show L.getD 0 0 ≠ 45 by rw [HX0.out]; exact hx45)
          go_enter Tryd.func31, Tryd.ntmps31
          go_wp2_with (first
            | (go_at_call 29; refine (HF.out _).mono ?_; rintro e w1 ⟨rfl, hb1⟩; have hs1 := hb1.size)
            | (go_at_call 38; refine (HP.out _).mono ?_; rintro e w2 ⟨ao, cap, rfl, hb2, hrow⟩; obtain ⟨b, off, rfl, hblt, hcl, hlc, hcm⟩ := ints_pos (Ints.of_owns hrow.out) hpos; have hc0 := hcl 0 hpos; rw [HX0.out, Nat.add_zero] at hc0; have hcY := hcl (L.length - 1) (by omega); rw [HY0.out] at hcY; have HCL := Lib.hid hcl; clear hcl))
          have HB2 := Lib.hid (hb1.trans (hb2.mono hs1))
          have hs2 := hb2.size
          clear hb1 hb2 hrow hc0 hcY e0 e1 hx45 hy45 zh1 zh2 zh3 zw
          go_loopw [7, 8, 9] (fun wv pv i wr => ∃ (k : Nat) (word points : List Int), k ≤ L.length ∧ i = .int .i64 (k : Int) ∧ Hid (IntRow wr w2.heap.size wv word) ∧ Hid (IntRow wr w2.heap.size pv points) ∧ Hid (∀ g, wv.ownBlock = some g → pv.ownBlock ≠ some g) ∧ Hid (word = noD (L.take k)) ∧ Hid (points = dash 0 (L.take k)) ∧ Hid (Below w2.heap.size w2 wr) ∧ Hid (okD (pdAt L k) (L.drop k) = okD true L) ∧ word.length ≤ k ∧ points.length ≤ k) (fun _ _ i _ => L.length - (intOf i).toNat)
          case atStart => exact ⟨0, [], [], Nat.zero_le _, rfl, Lib.hid (IntRow.nil _ _), Lib.hid (IntRow.nil _ _), Lib.hid (fun g hg => by simp [Value.ownBlock] at hg), Lib.hid rfl, Lib.hid rfl, Lib.hid (Below.refl _ _), Lib.hid rfl, Nat.zero_le _, Nat.zero_le _⟩
          case round =>
            obtain ⟨k, word, points, hk, rfl, HW, HQ, HNE, HWE, HPE, HB, HO, hwl, hpl⟩ := hrel
            have hrs := HB.out.size
            obtain ⟨wao, wcap, rfl⟩ := row_slice HW.out
            by_cases hlk : k < L.length
            · have hcell := (HB.out.cell (p := ⟨b, off + k, none⟩) hblt).trans (HCL.out k hlk)
              have htk := take_snoc L 0 k hlk
              have HLT := Lib.hid (fun h => okD_at_let (l := L) hlk h)
              have HDS := Lib.hid (fun h h' => okD_at_dash (l := L) hlk h h')
              have HTW := Lib.hid (fun h h' => okD_at_two (l := L) hlk h h')
              have HNN := Lib.hid (fun h h' => okD_at_no (l := L) hlk h h')
              have hpd0 : k ≠ 0 → pdAt L k = decide (L.getD (k - 1) 0 = 45) := fun h => by unfold pdAt; rw [if_neg h]
              have hk0 : L.getD k 0 = 45 → k ≠ 0 := fun h e => HN0.out (by rw [← e]; exact h)
              obtain ⟨c, hc⟩ : ∃ c, L.getD k 0 = c := ⟨_, rfl⟩
              rw [hc] at hcell htk HLT HDS HTW HNN hk0
              have HWS := Lib.hid (noD_snoc (L.take k) c)
              have HPS := Lib.hid (dash_snoc (L.take k) c 0)
              rw [← htk, ← HWE.out] at HWS
              rw [← htk, ← HPE.out, ← HWE.out, Nat.zero_add] at HPS
              have HPD := Lib.hid hpd0
              have HK0 := Lib.hid hk0
              clear hc htk hpd0 hk0
              cases hlc2 : letC c with
              | true =>
                have HLC := Lib.hid hlc2
                have hn45 : c ≠ 45 := (letC_num hlc2).2.2.1
                have HW2 := Lib.hid (show word ++ [c] = noD (L.take (k + 1)) by rw [HWS.out, if_neg hn45])
                have HP2 := Lib.hid (show points = dash 0 (L.take (k + 1)) by rw [HPS.out, if_neg hn45, List.append_nil])
                have HO2 := Lib.hid ((HLT.out hlc2).symm.trans HO.out)
                clear hlc2 hn45
                go_wp2_with (first
                  | (go_at_call 48; refine (letter2_any _ _).mono ?_; rw [HLC.out]; rintro e w' ⟨rfl, rfl⟩)
                  | (at_builtin; refine wpList_append_own_at _ rfl _ _ 26 rfl w2.heap.size 3 i0 (.int .i64 0) 1 8 Tryd.underlying26 hi hz0 hz1 hz2 rfl (by decide) _ word.length (word.map (Value.int .i64)) rfl (World.ownsRow.alloc HW.out _) ⟨wr.heap.size, 0, none⟩ 1 1 [.int .i64 c] rfl rfl (cell_one_new _ _ _) (by intro u hu; simp at hu; subst hu; rfl) (by unfold maxLen; omega) (by omega) (by simp; omega) ?_; intro pv3 w5 hown hg _ hat; obtain ⟨s1, s2, s3, s4, s5⟩ := row_app HQ.out HNE.out hown rfl hg hat; have S1 := Lib.hid s1; have S2 := Lib.hid s2; have S3 := Lib.hid s3; have S4 := Lib.hid (s4.toBelow (B := w2.heap.size) (fun i hi => row_base HW.out i (by simpa using hi)) (by omega)); clear s1 s2 s3 s4 hown hg hat))
                exact ⟨⟨k + 1, word ++ [c], points, hlk, by go_num, S1, S2, S3, HW2, HP2, Lib.hid (HB.out.trans S4.out), HO2, by simp; omega, by omega⟩, by simp [intOf]; omega⟩
              | false =>
                have HLC := Lib.hid hlc2
                clear hlc2
                by_cases h45 : c = 45
                · have e45 : (c == 45) = true := by simp [h45]
                  have hk1 : k ≠ 0 := HK0.out h45
                  have H45 := Lib.hid h45
                  clear h45
                  have zh1 : (0 : Int) ≤ (k : Int) - 1 := by omega
                  have zh2 : (k : Int) - 1 < (L.length : Int) := by omega
                  have zh3 : ((k : Int) - 1).toNat = k - 1 := by omega
                  have zw : IntKind.i64.wrap ((k : Int) - 1) = (k : Int) - 1 := IntWalk.i64_in _ (by omega)
                  have hcell2 := (HB.out.cell (p := ⟨b, off + (k - 1), none⟩) hblt).trans (HCL.out (k - 1) (by omega))
                  have hpd := HPD.out hk1
                  obtain ⟨z, hz⟩ : ∃ z, L.getD (k - 1) 0 = z := ⟨_, rfl⟩
                  rw [hz] at hcell2 hpd
                  clear hz
                  by_cases hz45 : z = 45
                  · have ez : (z != 45) = false := by simp [hz45]
                    have HX := Lib.hid (HXN.out (by rw [← HO.out]; exact HTW.out H45.out (by rw [hpd, decide_eq_true hz45])))
                    clear hpd
                    go_wp2_with (first
                      | (go_at_call 48; refine (letter2_any _ _).mono ?_; rw [HLC.out]; rintro e w' ⟨rfl, rfl⟩))
                    refine bodyPost_ret (v := .tuple #[.string ⟨#[]⟩, .slice none 0 0, .bool false]) (by simp [results, Tryd.f31, go_sem]) rfl (exPost_no HX.out (HB2.out.trans (HB.out.mono HB2.out.size)))
                  · have ez : (z != 45) = true := by simp [hz45]
                    have hpf : pdAt L k = false := by rw [hpd, decide_eq_false hz45]
                    have HW2 := Lib.hid (show word = noD (L.take (k + 1)) by rw [HWS.out, if_pos H45.out, List.append_nil])
                    have HP2 := Lib.hid (show points ++ [((word.length : Nat) : Int)] = dash 0 (L.take (k + 1)) by rw [HPS.out, if_pos H45.out])
                    have HO2 := Lib.hid ((HDS.out H45.out hpf).symm.trans HO.out)
                    clear hpd hpf
                    go_wp2_with (first
                      | (go_at_call 48; refine (letter2_any _ _).mono ?_; rw [HLC.out]; rintro e w' ⟨rfl, rfl⟩)
                      | (at_builtin; refine wpList_append_own_at _ rfl _ _ 26 rfl w2.heap.size 3 i0 (.int .i64 0) 1 8 Tryd.underlying26 hi hz0 hz1 hz2 rfl (by decide) u8 points.length (points.map (Value.int .i64)) rfl (World.ownsRow.alloc HQ.out _) ⟨wr.heap.size, 0, none⟩ 1 1 [.int .i64 (word.length : Int)] rfl rfl (cell_one_new _ _ _) (by intro u hu; simp at hu; subst hu; rfl) (by unfold maxLen; omega) (by omega) (by simp; omega) ?_; intro pv3 w5 hown hg _ hat; obtain ⟨s1, s2, s3, s4, s5⟩ := row_app HW.out (fun g hg hh => HNE.out g hh hg) hown rfl hg hat; have S1 := Lib.hid s1; have S2 := Lib.hid s2; have S3 := Lib.hid s3; have S4 := Lib.hid (s4.toBelow (B := w2.heap.size) (fun i hi => row_base HQ.out i (by simpa using hi)) (by omega)); clear s1 s2 s3 s4 hown hg hat))
                    exact ⟨⟨k + 1, word, points ++ [((word.length : Nat) : Int)], hlk, by go_num, S2, S1, Lib.hid (fun g hg hh => S3.out g hh hg), HW2, HP2, Lib.hid (HB.out.trans S4.out), HO2, by omega, by simp; omega⟩, by simp [intOf]; omega⟩
                · have e45 : (c == 45) = false := by simp [h45]
                  have HX := Lib.hid (HXN.out (by rw [← HO.out]; exact HNN.out h45 HLC.out))
                  go_wp2_with (first
                    | (go_at_call 48; refine (letter2_any _ _).mono ?_; rw [HLC.out]; rintro e w' ⟨rfl, rfl⟩))
                  refine bodyPost_ret (v := .tuple #[.string ⟨#[]⟩, .slice none 0 0, .bool false]) (by simp [results, Tryd.f31, go_sem]) rfl (exPost_no HX.out (HB2.out.trans (HB.out.mono HB2.out.size)))
            · have hke : k = L.length := by omega
              have hall : L.take k = L := by rw [hke]; exact List.take_length
              have HOY := Lib.hid (show okD true L = true by rw [← HO.out, hke]; exact HEND.out)
              have hw3 : word = noD L := by have := HWE.out; rwa [hall] at this
              have hp3 : points = dash 0 L := by have := HPE.out; rwa [hall] at this
              have HX := Lib.hid (show exP f = (encI word, points, decide (word.length ≤ 64)) by rw [HXY.out HOY.out, hw3, hp3])
              have HMK := Lib.hid (show makeP word = (encI word, 0) by unfold makeP; rw [hw3, okI_noD HOK.out]; rfl)
              have d7 : decide (k < L.length) = false := by simp [hlk]
              clear hall hw3 hp3
              go_wp2_with (first
                | (go_at_call 41; refine (make_any _ word _ (by omega) (Ints.of_owns HW.out)).mono ?_; rw [HMK.out]; rintro e w5 ⟨rfl, hb5⟩))
              refine bodyPost_ret (v := .tuple #[.string ⟨(encI word).toArray⟩, u8, .bool (decide (word.length ≤ 64))]) (by simp [results, Tryd.f31, go_sem]; omega) rfl (exPost_yes HX.out (HB2.out.trans ((HB.out.trans (hb5.mono hrs)).mono HB2.out.size)) (IntRow.weak (row_turn HQ.out (Turn.ofBelow (F := []) hb5 (Nat.le_refl _)) (fun _ _ => by simp)) HB2.out.size))
end Go.Proofs.YtdcdlmigagjbiaaDoor
