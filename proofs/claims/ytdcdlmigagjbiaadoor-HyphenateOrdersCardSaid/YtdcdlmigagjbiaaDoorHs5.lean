/- check walked. -/
import Derived.Test.YtdcdlmigagjbiaaDoorHs4
namespace Go.Proofs.YtdcdlmigagjbiaaDoor
open Go.RowKit Go.Maps
def nmP (exs : List (List UInt8)) (j : Nat) : List UInt8 := (exOf (exs.getD j [])).1
theorem dup_yes {exs : List (List UInt8)} {i k : Nat} (hi : i < exs.length) (hk : k < i) (h : nmP exs i = nmP exs k) : dupB exs = true := by
  unfold dupB
  rw [decide_eq_false]
  · rfl
  · intro hn
    have := List.pairwise_iff_getElem.1 hn k i (by rw [List.length_map]; omega) (by rw [List.length_map]; omega) hk
    apply this
    rw [List.getElem_map, List.getElem_map]
    unfold nmP at h
    rw [List.getD_eq_getElem?_getD, List.getD_eq_getElem?_getD, List.getElem?_eq_getElem hi, List.getElem?_eq_getElem (by omega)] at h
    exact h.symm
theorem dup_none {exs : List (List UInt8)} (h : ∀ i, i < exs.length → ∀ k, k < i → nmP exs i ≠ nmP exs k) : dupB exs = false := by
  unfold dupB
  rw [decide_eq_true]
  · rfl
  · unfold List.Nodup
    rw [List.pairwise_iff_getElem]
    intro k i hk hi hki
    rw [List.length_map] at hk hi
    rw [List.getElem_map, List.getElem_map]
    have := h i hi k hki
    unfold nmP at this
    rw [List.getD_eq_getElem?_getD, List.getD_eq_getElem?_getD, List.getElem?_eq_getElem hi, List.getElem?_eq_getElem (by omega)] at this
    exact fun e => this e.symm
theorem parseP_code {s : List UInt8} : (parseP s).1 = if (U.bad s).isEmpty = false then 12 else if (par2 s).2 = true then 0 else 14 := by
  unfold parseP par2
  by_cases h : (U.bad s).isEmpty = false
  · rw [if_pos h, if_pos h]
  · rw [if_neg h, if_neg h, if_neg h]
    by_cases h2 : printP (patOf (ptsI s)) = (0, s)
    · rw [if_pos h2, if_pos (by simpa using h2)]
    · rw [if_neg h2, if_neg (by simpa using h2)]
def NumPost (n : Nat) (w : World) (e : Ending) (w' : World) : Prop := e = .returned (.int .i64 (n : Int)) ∧ Below w.heap.size w w'
theorem numPost {a b : Nat} {w w' : World} (h : a = b) (hb : Below w.heap.size w w') : NumPost a w (.returned (.int .i64 (b : Int))) w' := ⟨by rw [h], hb⟩
set_option maxRecDepth 100000 in
set_option maxHeartbeats 8000000 in
theorem check_any (D : DictV) (w : World) (H : D.At w) (hpl : ∀ s, s ∈ D.pats → s.length ≤ 1000000) (hel : ∀ s, s ∈ D.exs → s.length ≤ 100000000) : Calls Tryd.prog 26 #[D.val] w (NumPost (newE D.pats D.exs D.left D.right) w) := by
  obtain ⟨pv, ev, pats, exs, left, right⟩ := D
  obtain ⟨hp0, he0, _, _⟩ := H
  have hp : Strs w pv pats := hp0
  have he : Strs w ev exs := he0
  clear hp0 he0
  show Calls Tryd.prog 26 #[.agg #[pv, ev, .int .i64 left, .int .i64 right]] w (NumPost (newE pats exs left right) w)
  obtain ⟨pao, pcap, rfl, _⟩ := id hp
  obtain ⟨eao, ecap, rfl, _⟩ := id he
  have hpl' : ∀ s, s ∈ pats → s.length ≤ 1000000 := hpl
  clear hpl
  have hpl := hpl'
  clear hpl'
  have hel : ∀ s, s ∈ exs → s.length ≤ 100000000 := hel
  have HPL := Lib.hid hpl
  have HEL := Lib.hid hel
  have HPS := Lib.hid hp
  have HES := Lib.hid he
  have HBK := Lib.hid (Blk.new w 44 #[.slice pao pats.length pcap, .slice eao exs.length ecap, .int .i64 left, .int .i64 right])
  have HBW := Lib.hid ((Below.refl w.heap.size w).alloc (Nat.le_refl _) (.cells #[.slice pao pats.length pcap, .slice eao exs.length ecap, .int .i64 left, .int .i64 right] 44))
  have hsW : (w.alloc (.cells #[.slice pao pats.length pcap, .slice eao exs.length ecap, .int .i64 left, .int .i64 right] 44)).heap.size = w.heap.size + 1 := by simp
  clear hp he hpl hel
  obtain ⟨W, hW⟩ : ∃ W, w.alloc (.cells #[.slice pao pats.length pcap, .slice eao exs.length ecap, .int .i64 left, .int .i64 right] 44) = W := ⟨_, rfl⟩
  rw [hW] at HBK HBW hsW
  obtain ⟨c0, c1, c2, c3⟩ := HBK.out.four
  by_cases h1 : 4096 < pats.length
  · have d1 : decide (4096 < pats.length) = true := by simp [h1]
    have HX := Lib.hid (show newE pats exs left right = 9 by unfold newE; rw [if_pos (.inl h1)])
    go_enter Tryd.func26, Tryd.ntmps26
    go_wp2_with fail
    refine bodyPost_ret (v := .int .i64 9) (by simp [results, Tryd.f26, go_sem]) rfl (numPost (b := 9) HX.out HBW.out)
  have d1 : decide (4096 < pats.length) = false := by simp [h1]
  by_cases h2 : 4096 < exs.length
  · have d2 : decide (4096 < exs.length) = true := by simp [h2]
    have HX := Lib.hid (show newE pats exs left right = 9 by unfold newE; rw [if_pos (.inr h2)])
    go_enter Tryd.func26, Tryd.ntmps26
    go_wp2_with fail
    refine bodyPost_ret (v := .int .i64 9) (by simp [results, Tryd.f26, go_sem]) rfl (numPost (b := 9) HX.out HBW.out)
  have d2 : decide (4096 < exs.length) = false := by simp [h2]
  have HE0 := Lib.hid (show newE pats exs left right = if fe pats ≠ 0 then fe pats else if exBad exs = true then 14 else if dupB exs = true then 7 else if rangeB left right = true then 2 else 0 by unfold newE; rw [if_neg (by omega)])
  have hpn : pats.length ≤ 4096 := by omega
  have hen : exs.length ≤ 4096 := by omega
  go_enter Tryd.func26, Tryd.ntmps26
  go_wp2_with fail
  go_loopw [3] (fun i wr => ∃ k : Nat, k ≤ pats.length ∧ i = .int .i64 (k : Int) ∧ Hid (Below W.heap.size W wr) ∧ Hid (∀ j, j < k → (parseP (pats.getD j [])).1 = 0)) (fun i _ => pats.length - (intOf i).toNat)
  case atStart => exact ⟨0, Nat.zero_le _, rfl, Lib.hid (Below.refl _ _), Lib.hid (fun j hj => absurd hj (Nat.not_lt_zero j))⟩
  case round =>
    obtain ⟨k, hk, rfl, HB, HA⟩ := hrel
    have hws := HB.out.size
    have HBT := Lib.hid (HBW.out.trans (HB.out.mono (by omega)))
    obtain ⟨c0, c1, c2, c3⟩ := (HBK.out.below HB.out (by omega)).four
    by_cases hlt : k < pats.length
    · obtain ⟨pb, poff, rfl, hcell⟩ := strs_at HPS.out HBT.out hlt
      have HM := Lib.hid (getD_in (d := []) hlt)
      have HFE := Lib.hid (fe_at pats k hlt HA.out)
      have HA2 := Lib.hid (fun (h0 : (parseP (pats.getD k [])).1 = 0) (j : Nat) (hj : j < k + 1) => show (parseP (pats.getD j [])).1 = 0 by
        rcases Nat.lt_or_ge j k with hx | hx
        · exact HA.out j hx
        · have : j = k := by omega
          rw [this]; exact h0)
      obtain ⟨s, hs⟩ : ∃ s, pats.getD k [] = s := ⟨_, rfl⟩
      rw [hs] at hcell HM HFE HA2
      have hsl := HPL.out s HM.out
      have HPC := Lib.hid (parseP_code (s := s))
      clear hs
      cases hbad : (U.bad s).isEmpty with
      | false =>
        have HX := Lib.hid (show newE pats exs left right = 12 by
          have e : (parseP s).1 = 12 := by rw [HPC.out, if_pos hbad]
          have := HFE.out (by rw [e]; decide)
          rw [HE0.out, this, e]; rfl)
        have HBD := Lib.hid hbad
        clear hbad
        go_wp2_with (go_at_call 23; (with_reducible refine (valid_at ⟨s.toArray⟩ false (by rw [ba_size]; omega) HBD _).mono ?_); rintro e w' ⟨rfl, rfl⟩)
        refine bodyPost_ret (v := .int .i64 12) (by simp [results, Tryd.f26, go_sem]) rfl (numPost (b := 12) HX.out HBT.out)
      | true =>
        have HBD := Lib.hid hbad
        obtain ⟨P, ok, hpk⟩ : ∃ P ok, par2 s = (P, ok) := ⟨_, _, rfl⟩
        have HPK := Lib.hid hpk
        have HP2 := Lib.hid (fun w => parse2_any s hsl w)
        unfold Par2Post at HP2
        rw [hpk] at HP2
        clear hbad hpk
        cases ok with
        | false =>
          have HX := Lib.hid (show newE pats exs left right = 14 by
            have e : (parseP s).1 = 14 := by rw [HPC.out, HBD.out, HPK.out]; rfl
            have := HFE.out (by rw [e]; decide)
            rw [HE0.out, this, e]; rfl)
          go_wp2_with (first
            | (go_at_call 23; (with_reducible refine (valid_at ⟨s.toArray⟩ true (by rw [ba_size]; omega) HBD _).mono ?_); rintro e w' ⟨rfl, rfl⟩)
            | (go_at_call 22; refine (HP2.out _).mono ?_; rintro e w2 ⟨pv2, rfl, hb2, hr2⟩; obtain ⟨vao, vcap, rfl⟩ := row_slice hr2; unfold patV))
          refine bodyPost_ret (v := .int .i64 14) (by simp [results, Tryd.f26, go_sem]) rfl (numPost (b := 14) HX.out (by first | exact (HBT.out.trans (hb2.mono HBT.out.size)).alloc (Nat.le_trans HBT.out.size hb2.size) _ | exact below_store4 ((HBT.out.trans (hb2.mono HBT.out.size)).alloc (Nat.le_trans HBT.out.size hb2.size) _) (Nat.le_trans HBT.out.size hb2.size) _ _ _ _))
        | true =>
          have HA3 := Lib.hid (HA2.out (by rw [HPC.out, HBD.out, HPK.out]; rfl))
          go_wp2_with (first
            | (go_at_call 23; (with_reducible refine (valid_at ⟨s.toArray⟩ true (by rw [ba_size]; omega) HBD _).mono ?_); rintro e w' ⟨rfl, rfl⟩)
            | (go_at_call 22; refine (HP2.out _).mono ?_; rintro e w2 ⟨pv2, rfl, hb2, hr2⟩; obtain ⟨vao, vcap, rfl⟩ := row_slice hr2; unfold patV))
          exact ⟨⟨k + 1, hlt, by go_num, Lib.hid (by first | exact (HB.out.trans (hb2.mono hws)).alloc (Nat.le_trans hws hb2.size) _ | exact below_store4 ((HB.out.trans (hb2.mono hws)).alloc (Nat.le_trans hws hb2.size) _) (Nat.le_trans hws hb2.size) _ _ _ _), HA3⟩, by simp [intOf]; omega⟩
    · have hke : k = pats.length := by omega
      subst hke
      have HF0 := Lib.hid (fe_none pats (fun j hj => HA.out j (by omega)))
      have d7 : decide (pats.length < pats.length) = false := by simp
      clear HA HBT
      go_wp2_with fail
      go_loopw [6] (fun i wr => ∃ k : Nat, k ≤ exs.length ∧ i = .int .i64 (k : Int) ∧ Hid (Below W.heap.size W wr) ∧ Hid (∀ i, i < k → (exP (foldP (exs.getD i []))).2.2 = true)) (fun i _ => exs.length - (intOf i).toNat)
      case atStart => exact ⟨0, Nat.zero_le _, rfl, HB, Lib.hid (fun j hj => absurd hj (Nat.not_lt_zero j))⟩
      case round =>
        clear c0 c1 c2 c3 HB hws
        obtain ⟨k, hk, rfl, HB, HA⟩ := hrel
        have hws := HB.out.size
        have HBT := Lib.hid (HBW.out.trans (HB.out.mono (by omega)))
        obtain ⟨c0, c1, c2, c3⟩ := (HBK.out.below HB.out (by omega)).four
        by_cases hlt : k < exs.length
        · obtain ⟨pb, poff, rfl, hcell⟩ := strs_at HES.out HBT.out hlt
          have HM := Lib.hid (getD_in (d := []) hlt)
          have HBD := Lib.hid (bad_at (l := exs) (k := k) hlt)
          have HA2 := Lib.hid (fun (h0 : (exP (foldP (exs.getD k []))).2.2 = true) (i : Nat) (hi : i < k + 1) => show (exP (foldP (exs.getD i []))).2.2 = true by
            rcases Nat.lt_or_ge i k with hx | hx
            · exact HA.out i hx
            · have : i = k := by omega
              rw [this]; exact h0)
          obtain ⟨s, hs⟩ : ∃ s, exs.getD k [] = s := ⟨_, rfl⟩
          rw [hs] at hcell HM HBD HA2
          have hsl := HEL.out s HM.out
          clear hs
          have HXC := Lib.hid (fun w => exception2_any s hsl w)
          unfold ExPost at HXC
          obtain ⟨wd, ps, ok, hx⟩ : ∃ wd ps ok, exP (foldP s) = (wd, ps, ok) := ⟨_, _, _, rfl⟩
          have HXP := Lib.hid hx
          rw [hx] at HXC
          clear hx
          cases ok with
          | false =>
            have HX := Lib.hid (show newE pats exs left right = 14 by
              rw [HE0.out, HF0.out, HBD.out (by rw [HXP.out])]; rfl)
            go_wp2_with (go_at_call 31; refine (HXC.out _).mono ?_; rintro e w2 ⟨pv2, rfl, hb2, hr2⟩)
            refine bodyPost_ret (v := .int .i64 14) (by simp [results, Tryd.f26, go_sem]) rfl (numPost (b := 14) HX.out (HBT.out.trans (hb2.mono HBT.out.size)))
          | true =>
            have HA3 := Lib.hid (HA2.out (by rw [HXP.out]))
            go_wp2_with (go_at_call 31; refine (HXC.out _).mono ?_; rintro e w2 ⟨pv2, rfl, hb2, hr2⟩)
            exact ⟨⟨k + 1, hlt, by go_num, Lib.hid (HB.out.trans (hb2.mono hws)), HA3⟩, by simp [intOf]; omega⟩
        · have hke : k = exs.length := by omega
          subst hke
          have HNB := Lib.hid (bad_none (l := exs) (fun i hi => HA.out i (by omega)))
          have d8 : decide (exs.length < exs.length) = false := by simp
          clear HA HBT
          go_wp2_with fail
          go_loopw [10] (fun i wr => ∃ k : Nat, k ≤ exs.length ∧ i = .int .i64 (k : Int) ∧ Hid (Below W.heap.size W wr) ∧ Hid (∀ i, i < k → ∀ j, j < i → nmP exs i ≠ nmP exs j)) (fun i _ => exs.length - (intOf i).toNat)
          case atStart => exact ⟨0, Nat.zero_le _, rfl, HB, Lib.hid (fun j hj => absurd hj (Nat.not_lt_zero j))⟩
          case round =>
            clear c0 c1 c2 c3 HB hws
            obtain ⟨k, hk, rfl, HB, HA⟩ := hrel
            have hws := HB.out.size
            have HBT := Lib.hid (HBW.out.trans (HB.out.mono (by omega)))
            obtain ⟨c0, c1, c2, c3⟩ := (HBK.out.below HB.out (by omega)).four
            by_cases hlt : k < exs.length
            · obtain ⟨eb, eoff, rfl, _⟩ := strs_at HES.out HBT.out hlt
              go_wp2_with fail
              go_loopw [11] (fun i wr => ∃ j : Nat, j ≤ k ∧ i = .int .i64 (j : Int) ∧ Hid (Below W.heap.size W wr) ∧ Hid (∀ i, i < j → nmP exs k ≠ nmP exs i)) (fun i _ => k - (intOf i).toNat)
              case atStart => exact ⟨0, Nat.zero_le _, rfl, HB, Lib.hid (fun j hj => absurd hj (Nat.not_lt_zero j))⟩
              case round =>
                clear c0 c1 c2 c3 HB hws HBT
                obtain ⟨j, hj, rfl, HB, HN⟩ := hrel
                have hws := HB.out.size
                have HBT := Lib.hid (HBW.out.trans (HB.out.mono (by omega)))
                obtain ⟨c0, c1, c2, c3⟩ := (HBK.out.below HB.out (by omega)).four
                by_cases hjk : j < k
                · have hjl : j < exs.length := by omega
                  obtain ⟨pb, poff, hpe, hcell⟩ := strs_at HES.out HBT.out hlt
                  obtain ⟨pb2, poff2, hpe2, hcell2⟩ := strs_at HES.out HBT.out hjl
                  injection hpe with hpe
                  injection hpe2 with hpe2
                  injection hpe with a1 a2
                  injection hpe2 with a3 a4
                  subst a1 a2 a3 a4
                  have HM := Lib.hid (getD_in (d := []) hlt)
                  have HM2 := Lib.hid (getD_in (d := []) hjl)
                  have HDY := Lib.hid (dup_yes hlt hjk)
                  have HN2 := Lib.hid (fun (h0 : nmP exs k ≠ nmP exs j) (i : Nat) (hi : i < j + 1) => show nmP exs k ≠ nmP exs i by
                    rcases Nat.lt_or_ge i j with hx | hx
                    · exact HN.out i hx
                    · have : i = j := by omega
                      rw [this]; exact h0)
                  have hn1 : nmP exs k = (exP (foldP (exs.getD k []))).1 := rfl
                  have hn2 : nmP exs j = (exP (foldP (exs.getD j []))).1 := rfl
                  rw [hn1, hn2] at HDY HN2
                  obtain ⟨s, hs⟩ : ∃ s, exs.getD k [] = s := ⟨_, rfl⟩
                  obtain ⟨t, ht⟩ : ∃ t, exs.getD j [] = t := ⟨_, rfl⟩
                  rw [hs] at hcell HM HDY HN2
                  rw [ht] at hcell2 HM2 HDY HN2
                  have hsl := HEL.out s HM.out
                  have htl := HEL.out t HM2.out
                  have HXC := Lib.hid (fun w => exception2_any s hsl w)
                  have HXC2 := Lib.hid (fun w => exception2_any t htl w)
                  unfold ExPost at HXC HXC2
                  obtain ⟨wd, ps, ok, hx⟩ : ∃ wd ps ok, exP (foldP s) = (wd, ps, ok) := ⟨_, _, _, rfl⟩
                  obtain ⟨wd2, ps2, ok2, hx2⟩ : ∃ wd ps ok, exP (foldP t) = (wd, ps, ok) := ⟨_, _, _, rfl⟩
                  rw [hs, hx] at hn1
                  have HNK := Lib.hid (show nmP exs k = wd from hn1)
                  rw [hx] at HXC HDY HN2
                  rw [hx2] at HXC2 HDY HN2
                  clear hs ht hx hx2 hn1 hn2
                  by_cases hq : wd = wd2
                  · have e1 : (wd == wd2) = true := by rw [beq_iff_eq]; exact hq
                    have e2 : ((⟨wd.toArray⟩ : ByteArray).toList == (⟨wd2.toArray⟩ : ByteArray).toList) = true := seq_t (by rw [hq])
                    have HX := Lib.hid (show newE pats exs left right = 7 by
                      rw [HE0.out, HF0.out, HNB.out, HDY.out hq]; rfl)
                    clear hq
                    go_wp2_with fail
                    go_at_call 31
                    refine (HXC.out _).mono ?_
                    rintro e w2 ⟨pv2, rfl, hb2, hr2⟩
                    have hs2 := hb2.size
                    obtain ⟨c0, c1, c2, c3⟩ := (HBK.out.below (HB.out.trans (hb2.mono hws)) (by omega)).four
                    have hcell2 := (hb2.cell (p := ⟨eb, eoff + j, none⟩) (cell_lt hcell2)).trans hcell2
                    have HB2 := Lib.hid hb2
                    clear hb2 hr2 hcell
                    go_wp2_with fail
                    go_at_call 31
                    refine (HXC2.out _).mono ?_
                    rintro e w3 ⟨pv3, rfl, hb3, hr3⟩
                    have HB3 := Lib.hid hb3
                    clear hb3 hr3
                    go_wp2_with fail
                    refine bodyPost_ret (v := .int .i64 7) (by simp [results, Tryd.f26, go_sem]) rfl (numPost (b := 7) HX.out ((HBT.out.trans (HB2.out.mono HBT.out.size)).trans (HB3.out.mono (Nat.le_trans HBT.out.size hs2))))
                  · have e1 : (wd == wd2) = false := by rw [beq_eq_false_iff_ne]; exact hq
                    have e2 : ((⟨wd.toArray⟩ : ByteArray).toList == (⟨wd2.toArray⟩ : ByteArray).toList) = false := seq_f (fun e => hq (by have := congrArg (fun b : ByteArray => b.data.toList) e; exact this))
                    have HN3 := Lib.hid (HN2.out hq)
                    clear hq
                    go_wp2_with fail
                    go_at_call 31
                    refine (HXC.out _).mono ?_
                    rintro e w2 ⟨pv2, rfl, hb2, hr2⟩
                    have hs2 := hb2.size
                    obtain ⟨c0, c1, c2, c3⟩ := (HBK.out.below (HB.out.trans (hb2.mono hws)) (by omega)).four
                    have hcell2 := (hb2.cell (p := ⟨eb, eoff + j, none⟩) (cell_lt hcell2)).trans hcell2
                    have HB2 := Lib.hid hb2
                    clear hb2 hr2 hcell
                    go_wp2_with fail
                    go_at_call 31
                    refine (HXC2.out _).mono ?_
                    rintro e w3 ⟨pv3, rfl, hb3, hr3⟩
                    have HB3 := Lib.hid hb3
                    clear hb3 hr3
                    go_wp2_with fail
                    exact ⟨⟨j + 1, hjk, by go_num, Lib.hid ((HB.out.trans (HB2.out.mono hws)).trans (HB3.out.mono (Nat.le_trans hws hs2))), Lib.hid (by rw [HNK.out]; exact HN3.out)⟩, by simp [intOf]; omega⟩
                · have hjk2 : j = k := by omega
                  subst hjk2
                  have HA3 := Lib.hid (show ∀ i, i < j + 1 → ∀ i', i' < i → nmP exs i ≠ nmP exs i' from fun i hi i' hi' => by
                    rcases Nat.lt_or_ge i j with hx | hx
                    · exact HA.out i hx i' hi'
                    · have : i = j := by omega
                      subst this; exact HN.out i' hi')
                  have d9 : decide (j < j) = false := by simp
                  go_wp2_with fail
                  exact ⟨⟨j + 1, hlt, by go_num, HB, HA3⟩, by simp [intOf]; omega⟩
            · have hke : k = exs.length := by omega
              subst hke
              have HDB := Lib.hid (dup_none (fun i hi => HA.out i (by omega)))
              have HEE := Lib.hid (show newE pats exs left right = if rangeB left right = true then 2 else 0 by
                rw [HE0.out, HF0.out, HNB.out, HDB.out]; rfl)
              clear HA
              by_cases r1 : left < 1
              · have e1 : decide (left < 1) = true := by simp [r1]
                have HRB := Lib.hid (show rangeB left right = true by unfold rangeB; rw [e1]; rfl)
                go_wp2_with fail
                refine bodyPost_ret (v := .int .i64 2) (by simp [results, Tryd.f26, go_sem]) rfl (numPost (b := 2) (by rw [HEE.out, HRB.out]; rfl) HBT.out)
              have e1 : decide (left < 1) = false := by simp [r1]
              by_cases r2 : 64 < left
              · have e2 : decide (64 < left) = true := by simp [r2]
                have HRB := Lib.hid (show rangeB left right = true by unfold rangeB; rw [e1, e2]; rfl)
                go_wp2_with fail
                refine bodyPost_ret (v := .int .i64 2) (by simp [results, Tryd.f26, go_sem]) rfl (numPost (b := 2) (by rw [HEE.out, HRB.out]; rfl) HBT.out)
              have e2 : decide (64 < left) = false := by simp [r2]
              by_cases r3 : right < 1
              · have e3 : decide (right < 1) = true := by simp [r3]
                have HRB := Lib.hid (show rangeB left right = true by unfold rangeB; rw [e1, e2, e3]; rfl)
                go_wp2_with fail
                refine bodyPost_ret (v := .int .i64 2) (by simp [results, Tryd.f26, go_sem]) rfl (numPost (b := 2) (by rw [HEE.out, HRB.out]; rfl) HBT.out)
              have e3 : decide (right < 1) = false := by simp [r3]
              by_cases r4 : 64 < right
              · have e4 : decide (64 < right) = true := by simp [r4]
                have HRB := Lib.hid (show rangeB left right = true by unfold rangeB; rw [e1, e2, e3, e4]; rfl)
                go_wp2_with fail
                refine bodyPost_ret (v := .int .i64 2) (by simp [results, Tryd.f26, go_sem]) rfl (numPost (b := 2) (by rw [HEE.out, HRB.out]; rfl) HBT.out)
              have e4 : decide (64 < right) = false := by simp [r4]
              have HRB := Lib.hid (show rangeB left right = false by unfold rangeB; rw [e1, e2, e3, e4]; rfl)
              go_wp2_with fail
              refine bodyPost_ret (v := .int .i64 0) (by simp [results, Tryd.f26, go_sem]) rfl (numPost (b := 0) (by rw [HEE.out, HRB.out]; rfl) HBT.out)
end Go.Proofs.YtdcdlmigagjbiaaDoor
