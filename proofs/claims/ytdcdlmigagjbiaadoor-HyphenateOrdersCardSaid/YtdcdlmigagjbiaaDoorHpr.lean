/- Print walked. -/
import Derived.Test.YtdcdlmigagjbiaaDoorKe
import Derived.Deep.RegionHeld3
import Derived.Deep.QuietTactic
namespace Go.Proofs.YtdcdlmigagjbiaaDoor
open Go.RowKit
set_option maxRecDepth 100000 in
set_option maxHeartbeats 16000000 in
theorem print_any (P : Pat) (pv : Value) (hs : P.letters.length ≤ 4294967296) (hll : P.levels.length ≤ 1000000000) (w : World) (hv : Ints w pv P.levels) :
    Calls Tryd.prog 18 #[patV P pv] w (PrintPost P w) := by
  obtain ⟨pao, pcap, rfl⟩ := hv.shape
  unfold patV
  have HV := Lib.hid hv
  have HB0 := Lib.hid (Blk.new w 33 #[.string ⟨P.letters.toArray⟩, .slice pao P.levels.length pcap, .bool P.beg, .bool P.fin])
  have hlt0 : w.heap.size < (w.alloc (.cells #[.string ⟨P.letters.toArray⟩, .slice pao P.levels.length pcap, .bool P.beg, .bool P.fin] 33)).heap.size := by simp
  have hba := Lib.hid ((Below.refl w.heap.size w).alloc (Nat.le_refl _) (.cells #[.string ⟨P.letters.toArray⟩, .slice pao P.levels.length pcap, .bool P.beg, .bool P.fin] 33))
  obtain ⟨W0, hW0⟩ : ∃ W0, w.alloc (.cells #[.string ⟨P.letters.toArray⟩, .slice pao P.levels.length pcap, .bool P.beg, .bool P.fin] 33) = W0 := ⟨_, rfl⟩
  rw [hW0] at HB0 hlt0 hba
  obtain ⟨p0, p1, p2, p3⟩ := HB0.out.four
  clear hv
  cases hb : (U.bad P.letters).isEmpty with
  | false =>
    have HP := Lib.hid (printP_bad hb)
    have HB := Lib.hid hb
    clear hb
    go_enter Tryd.func18, Tryd.ntmps18
    go_wp2_with (first
      | (go_at_call 38; refine (pts_bad HB.out hs _).mono ?_; rintro e w1 ⟨rfl, hb1⟩; have q0 := (hb1.cell (p := ⟨w.heap.size, 0, none⟩) hlt0).trans p0)
      | (go_at_call 39; refine (lets_at P.letters hs _).mono ?_; rintro e w2 ⟨v2, rfl, hb2⟩))
    refine bodyPost_ret (v := .tuple #[.string ⟨#[]⟩, .int .i64 12]) (by simp [results, Tryd.f18, go_sem]) rfl (printPost (n := 12) (t := []) HP.out (hba.out.trans ((hb1.mono (Nat.le_of_lt hlt0)).trans (hb2.mono (by have := hb1.size; omega)))))
  | true =>
    obtain ⟨L, hL⟩ : ∃ L, ptsI P.letters = L := ⟨_, rfl⟩
    have HB := Lib.hid hb
    have HL := Lib.hid hL
    have HPt := Lib.hid (fun w => pts_ok hb hs w)
    rw [hL] at HPt
    have hsz1 : ∀ {w1 : World}, Below W0.heap.size W0 w1 → w.heap.size < w1.heap.size := fun h => by have := h.size; omega
    -- the first two calls, then what is decided
    by_cases h0 : L.length = 0
    · have HP := Lib.hid (printP_empty (P := P) hb (by rw [hL]; exact h0))
      have e0 : (L.length = 0) = True := by rw [h0]; simp
      clear hb hL
      go_enter Tryd.func18, Tryd.ntmps18
      go_wp2_with (first
        | (go_at_call 38; refine (HPt.out _).mono ?_; rintro e w1 ⟨ao, cap, rfl, hb1, hrow⟩; have q0 := (hb1.cell (p := ⟨w.heap.size, 0, none⟩) hlt0).trans p0)
        | (go_at_call 39; refine (lets_at P.letters hs _).mono ?_; rintro e w2 ⟨v2, rfl, hb2⟩))
      refine bodyPost_ret (v := .tuple #[.string ⟨#[]⟩, .int .i64 11]) (by simp [results, Tryd.f18, go_sem]) rfl (printPost (n := 11) (t := []) HP.out (hba.out.trans ((hb1.mono (Nat.le_of_lt hlt0)).trans (hb2.mono (by have := hb1.size; omega)))))
    · have e0 : (L.length = 0) = False := by simp [h0]
      by_cases h40 : 40 < L.length
      · have HP := Lib.hid (printP_long (P := P) hb (by rw [hL]; exact h40))
        have e1 : (40 < L.length) = True := by simp [h40]
        clear hb hL
        go_enter Tryd.func18, Tryd.ntmps18
        go_wp2_with (first
          | (go_at_call 38; refine (HPt.out _).mono ?_; rintro e w1 ⟨ao, cap, rfl, hb1, hrow⟩; have q0 := (hb1.cell (p := ⟨w.heap.size, 0, none⟩) hlt0).trans p0)
          | (go_at_call 39; refine (lets_at P.letters hs _).mono ?_; rintro e w2 ⟨v2, rfl, hb2⟩))
        refine bodyPost_ret (v := .tuple #[.string ⟨#[]⟩, .int .i64 10]) (by simp [results, Tryd.f18, go_sem]) rfl (printPost (n := 10) (t := []) HP.out (hba.out.trans ((hb1.mono (Nat.le_of_lt hlt0)).trans (hb2.mono (by have := hb1.size; omega)))))
      · have e1 : (40 < L.length) = False := by simp [h40]
        cases hle : letsP P.letters with
        | false =>
          have HP := Lib.hid (printP_syn (P := P) hb (by rw [hL]; exact h0) (by rw [hL]; exact h40) (.inl hle))
          have HLE := Lib.hid hle
          clear hb hL hle
          go_enter Tryd.func18, Tryd.ntmps18
          go_wp2_with (first
            | (go_at_call 38; refine (HPt.out _).mono ?_; rintro e w1 ⟨ao, cap, rfl, hb1, hrow⟩; have q0 := (hb1.cell (p := ⟨w.heap.size, 0, none⟩) hlt0).trans p0)
            | (go_at_call 39; refine (lets_at P.letters hs _).mono ?_; rw [HLE.out]; rintro e w2 ⟨v2, rfl, hb2⟩))
          go_quiet (fail)
          go_wp2_with fail
          refine bodyPost_ret (v := .tuple #[.string ⟨#[]⟩, .int .i64 14]) (by simp [results, Tryd.f18, go_sem]) rfl (printPost (n := 14) (t := []) HP.out (hba.out.trans ((hb1.mono (Nat.le_of_lt hlt0)).trans (below_drewN (hb2.mono (by have := hb1.size; omega)) _))))
        | true =>
          have HLE := Lib.hid hle
          by_cases hfo : foldP P.letters = P.letters
          · have ef : ((⟨(foldP P.letters).toArray⟩ : ByteArray).toList != (⟨P.letters.toArray⟩ : ByteArray).toList) = false := sne_f (by rw [hfo])
            have eb : (foldP P.letters == P.letters) = true := by rw [hfo]; simp
            by_cases h15 : P.levels.length = L.length + 1
            · have HPR := Lib.hid (printP_range (P := P) hb (by rw [hL]; exact h0) (by rw [hL]; exact h40) hle hfo (by rw [hL]; exact h15))
              have HPO := Lib.hid (printP_ok (P := P) hb (by rw [hL]; exact h0) (by rw [hL]; exact h40) hle hfo (by rw [hL]; exact h15))
              rw [hL] at HPO
              have e2 : (P.levels.length = L.length + 1) = True := by simp [h15]
              have e3 : ((P.levels.length : Int) != (L.length : Int) + 1) = false := by rw [h15]; simp
              have e4 : (P.levels.length != L.length + 1) = false := by rw [h15]; simp
              have HOK := Lib.hid (show okI L = true by rw [← hL]; exact okI_pts _)
              have H15 := Lib.hid h15
              have hL40 : L.length ≤ 40 := by omega
              have hLp : 0 < L.length := by omega
              clear hb hL hle hfo h15
              go_enter Tryd.func18, Tryd.ntmps18
              go_wp2_with (first
                | (go_at_call 38; refine (HPt.out _).mono ?_; rintro e w1 ⟨ao, cap, rfl, hb1, hrow⟩; have q0 := (hb1.cell (p := ⟨w.heap.size, 0, none⟩) hlt0).trans p0; have lt1 := hsz1 hb1)
                | (go_at_call 39; refine (lets_at P.letters hs _).mono ?_; rw [HLE.out]; rintro e w2 ⟨v2, rfl, hb2⟩; have r0 := (hb2.cell (p := ⟨w.heap.size, 0, none⟩) lt1).trans q0; have lt2 := Nat.lt_of_lt_of_le lt1 hb2.size))
              go_region_held3 (fun w' => w'.cell? ⟨w.heap.size, 0, none⟩ = some (Value.string ⟨P.letters.toArray⟩))
                (first | go_keep)
                (first
                  | (go_at_call 29; refine (fold_at P.letters hs _).mono ?_; rintro e w3 ⟨rfl, hb3⟩; have t0 := (hb3.cell (p := ⟨w.heap.size, 0, none⟩) lt2).trans r0; have HB3 : Hid (Below w2.heap.size w2 w3) := Lib.hid (below_undrewN hb3); clear hb3))
              all_goals
                have HC := Lib.hid (hb1.trans ((hb2.mono hb1.size).trans (HB3.out.mono (Nat.le_trans hb1.size hb2.size))))
                have HBE := Lib.hid (hba.out.trans (HC.out.mono (Nat.le_of_lt hlt0)))
                have HB3' := Lib.hid (HB0.out.below HC.out hlt0)
                obtain ⟨t0, t1, t2, t3⟩ := HB3'.out.four
              all_goals
                obtain ⟨ib, ioff, rfl, hibl, hic, hicap⟩ : ∃ ib ioff, ao = some ⟨ib, ioff, none⟩ ∧ ib < w1.heap.size ∧ (∀ j, j < L.length → w1.cell? ⟨ib, ioff + j, none⟩ = some (.int .i64 (L.getD j 0))) ∧ L.length ≤ cap ∧ cap ≤ maxLen := by
                  rcases (Ints.of_owns hrow.out).open with ⟨hz, _⟩ | ⟨_, b, off, c', hv', hlc, hcm, hblt, hcl⟩
                  · rw [hz] at hLp; cases hLp
                  · injection hv' with a1 _ a3
                    subst a3
                    exact ⟨b, off, a1, hblt, hcl, hlc, hcm⟩
                obtain ⟨pb, poff, rfl, hpbl, hpc⟩ : ∃ pb poff, pao = some ⟨pb, poff, none⟩ ∧ pb < w.heap.size ∧ (∀ j, j < P.levels.length → w.cell? ⟨pb, poff + j, none⟩ = some (.int .i64 (P.levels.getD j 0))) := by
                  rcases HV.out.open with ⟨hz, _⟩ | ⟨_, b, off, c', hv', hlc, hcm, hblt, hcl⟩
                  · have := H15.out; rw [hz] at this; simp at this
                  · injection hv' with a1 _ a3
                    exact ⟨b, off, a1, hblt, hcl⟩
                have HIC := Lib.hid hic
                have HPC := Lib.hid hpc
                have HB13 := Lib.hid (hb2.trans (HB3.out.mono hb2.size))
                clear hic hpc hrow HV
                have HB4 := Lib.hid (HB3'.out.alloc (.cells #[.pointer none, .slice none 0 0] 78))
                obtain ⟨u0, u1, u2, u3⟩ := HB4.out.four
                have hfresh : Lib.IsBuilder 78 5 w3.heap.size w3.heap.size (Lib.byteCells []) (w3.alloc (.cells #[.pointer none, .slice none 0 0] 78)) := Lib.fresh_isBuilder _ _ _
                have hwlt : w.heap.size < w3.heap.size := Nat.lt_of_lt_of_le hlt0 HC.out.size
                cases hbeg : P.beg
                all_goals
                  rw [hbeg] at u2
                  go_wp2_with (go_at_call 40; refine (writeByte_any w3.heap.size w3.heap.size (Lib.byteCells []) 46 _ hfresh (by simp [Lib.byteCells]) (by simp)).mono ?_; rintro e wx ⟨rfl, hbdx, hbx⟩; have u1 := (hbx.cell (p := ⟨w.heap.size, 1, none⟩) hwlt).trans u1)
                all_goals
                  go_loopw [62] (fun i wr => ∃ (k : Nat) (acc : List UInt8), k ≤ P.levels.length ∧ i = .int .i64 (k : Int) ∧ Hid (Lib.IsBuilder 78 5 w3.heap.size w3.heap.size (Lib.byteCells acc) wr) ∧ Hid (Below w3.heap.size w3 wr) ∧ Hid (acc = dotB P.beg ++ bodyB (P.levels.take k) L) ∧ Hid (∀ j, j < k → lvOk (P.levels.getD j 0) = true)) (fun i _ => P.levels.length - (intOf i).toNat)
                  case atStart =>
                    have hba3 : Below w3.heap.size w3 (w3.alloc (.cells #[.pointer none, .slice none 0 0] 78)) := (Below.refl _ w3).alloc (Nat.le_refl _) _
                    first
                      | exact ⟨0, [46], Nat.zero_le _, rfl, Lib.hid (.inr hbdx), Lib.hid (hba3.trans hbx), Lib.hid (by rw [hbeg]; rfl), Lib.hid (fun j hj => absurd hj (Nat.not_lt_zero j))⟩
                      | exact ⟨0, [], Nat.zero_le _, rfl, Lib.hid hfresh, Lib.hid hba3, Lib.hid (by rw [hbeg]; rfl), Lib.hid (fun j hj => absurd hj (Nat.not_lt_zero j))⟩
                  case round =>
                    obtain ⟨k, acc, hk, rfl, hbd, hbe, hacc, hall⟩ := hrel
                    have hw3 := hbe.out.size
                    obtain ⟨v0, v1, v2', v3⟩ := (HB3'.out.below hbe.out hwlt).four
                    have hacl : acc.length ≤ 5 * k + 1 := by
                      rw [hacc.out, List.length_append]
                      have h1 : (dotB P.beg).length ≤ 1 := by unfold dotB; split <;> simp
                      have h2 := body_len P.levels L k hk
                      omega
                    have hbcl := Lib.hid (Lib.byteCells_length acc)
                    have hibw : ib < w3.heap.size := Nat.lt_of_lt_of_le hibl (HB13.out.size)
                    by_cases hlt : k < P.levels.length
                    · have hzc := (hbe.out.cell (p := ⟨pb, poff + k, none⟩) (Nat.lt_of_lt_of_le hpbl HBE.out.size)).trans ((HBE.out.cell (p := ⟨pb, poff + k, none⟩) hpbl).trans (HPC.out k hlt))
                      have HSN := Lib.hid (body_snoc P.levels L k hlt)
                      have HNO := Lib.hid (lv_no hlt)
                      have hall1 := Lib.hid (fun (hz : lvOk (P.levels.getD k 0) = true) (j : Nat) (hj : j < k + 1) => show lvOk (P.levels.getD j 0) = true by
                        rcases Nat.lt_or_ge j k with h1 | h1
                        · exact hall.out j h1
                        · have : j = k := by omega
                          rw [this]; exact hz)
                      obtain ⟨z, hz⟩ : ∃ z, P.levels.getD k 0 = z := ⟨_, rfl⟩
                      rw [hz] at hzc HSN HNO hall1
                      clear hz
                      by_cases hneg : z < 0
                      · have d0 : decide (z < 0) = true := by simp [hneg]
                        have HP2 := Lib.hid (HPR.out (HNO.out (by unfold lvOk; rw [d0]; rfl)))
                        go_wp2_with fail
                        refine bodyPost_ret (v := .tuple #[.string ⟨#[]⟩, .int .i64 2]) (by simp [results, Tryd.f18, go_sem]) rfl (printPost (n := 2) (t := []) HP2.out (HBE.out.trans (hbe.out.mono (Nat.le_of_lt hwlt))))
                      · have d0 : decide (z < 0) = false := by simp [hneg]
                        by_cases h9 : 9 < z
                        · have d9 : decide (9 < z) = true := by simp [h9]
                          have HP2 := Lib.hid (HPR.out (HNO.out (by unfold lvOk; rw [d9, d0]; rfl)))
                          go_wp2_with fail
                          refine bodyPost_ret (v := .tuple #[.string ⟨#[]⟩, .int .i64 2]) (by simp [results, Tryd.f18, go_sem]) rfl (printPost (n := 2) (t := []) HP2.out (HBE.out.trans (hbe.out.mono (Nat.le_of_lt hwlt))))
                        · have d9 : decide (9 < z) = false := by simp [h9]
                          have HLV := Lib.hid (show lvOk z = true by unfold lvOk; rw [d9, d0]; rfl)
                          by_cases hpos : 0 < z
                          · have dp : decide (0 < z) = true := by simp [hpos]
                            by_cases hkl : k < L.length
                            · have dl : decide (k < L.length) = true := by simp [hkl]
                              have hic := Lib.hid ((hbe.out.cell (p := ⟨ib, ioff + k, none⟩) hibw).trans ((HB13.out.cell (p := ⟨ib, ioff + k, none⟩) hibl).trans (HIC.out k hkl)))
                              have HZP := Lib.hid (show isPtI (L.getD k 0) = true by rw [List.getD_eq_getElem?_getD, List.getElem?_eq_getElem hkl]; exact List.all_eq_true.1 HOK.out _ (List.getElem_mem hkl))
                              obtain ⟨y, hy⟩ : ∃ y, L.getD k 0 = y := ⟨_, rfl⟩
                              rw [hy] at hic HZP HSN
                              clear hy
                              have hck := Lib.hid (show 1 ≤ cap - k ∧ cap - k ≤ maxLen from ⟨by have := hicap.1; omega, Nat.le_trans (Nat.sub_le _ _) hicap.2⟩)
                              have hl7 := Lib.hid (show (Lib.byteCells acc ++ [Value.int .u8 (48 + z)]).length + (⟨(U.enc y.toNat).toArray⟩ : ByteArray).size ≤ 140737488355328 by
                                have h1 := (U.esize_pos y.toNat).2
                                have h2 := hbcl.out
                                rw [ba_size, U.enc_length]
                                simp only [List.length_append, List.length_singleton, h2]
                                omega)
                              go_wp2_with (first
                                | (go_at_call 40; refine (writeByte_any w3.heap.size w3.heap.size (Lib.byteCells acc) (48 + z) _ hbd.out (by rw [hbcl.out]; omega) hw3).mono ?_; rintro e w5 ⟨rfl, hbd5, hb5⟩; have c5 := Lib.hid ((hb5.cell (p := ⟨ib, ioff + k, none⟩) hibw).trans hic.out); have hs5 := hb5.size; have hi5 := Nat.lt_of_lt_of_le hibw (Nat.le_trans hw3 hs5))
                                | (go_at_call 41; refine (make_one (v := .slice (some ⟨ib, ioff + k, none⟩) 1 (cap - k)) HZP.out rfl hck.out hi5 c5.out).mono ?_; rintro e w6 ⟨rfl, hb6⟩; have hbd6 := builder_below (used_builder hbd5) hb6; have hs6 := hb6.size; have hi6 := Nat.le_trans (Nat.le_trans hw3 hs5) hs6)
                                | (go_at_call 42; refine (writeString_any w3.heap.size w3.heap.size (Lib.byteCells acc ++ [Value.int .u8 (48 + z)]) ⟨(U.enc y.toNat).toArray⟩ _ hbd6 hl7.out hi6).mono ?_; rintro e w7 ⟨rfl, hbd7, hb7⟩))
                              have hx := hbd7
                              have ex : Lib.byteCells (acc ++ (digB z ++ (if k < L.length then U.enc y.toNat else []))) = (Lib.byteCells acc ++ [.int .u8 (48 + z)]) ++ Lib.strCells ⟨(U.enc y.toNat).toArray⟩ := by
                                rw [byteCells_append, byteCells_append, dig_cells (by omega) (by omega), if_pos hkl]
                                rw [List.append_assoc]; rfl
                              rw [← ex] at hx
                              exact ⟨⟨k + 1, _, hlt, by go_num, Lib.hid (.inr hx), Lib.hid (((hbe.out.trans hb5).trans (hb6.mono (by omega))).trans hb7), Lib.hid (by rw [HSN.out, hacc.out, List.append_assoc]), Lib.hid (hall1.out HLV.out)⟩, by simp [intOf]; omega⟩
                            · have dl : decide (k < L.length) = false := by simp [hkl]
                              go_wp2_with (first
                                | (go_at_call 40; refine (writeByte_any w3.heap.size w3.heap.size (Lib.byteCells acc) (48 + z) _ hbd.out (by rw [hbcl.out]; omega) hw3).mono ?_; rintro e w5 ⟨rfl, hbd5, hb5⟩))
                              have hx := hbd5
                              have ex : Lib.byteCells (acc ++ (digB z ++ (if k < L.length then U.enc (L.getD k 0).toNat else []))) = (Lib.byteCells acc ++ [.int .u8 (48 + z)]) := by
                                rw [byteCells_append, byteCells_append, dig_cells (by omega) (by omega), if_neg hkl]
                                rfl
                              rw [← ex] at hx
                              exact ⟨⟨k + 1, _, hlt, by go_num, Lib.hid (.inr hx), Lib.hid (hbe.out.trans hb5), Lib.hid (by rw [HSN.out, hacc.out, List.append_assoc]), Lib.hid (hall1.out HLV.out)⟩, by simp [intOf]; omega⟩
                          · have dp : decide (0 < z) = false := by simp [hpos]
                            by_cases hkl : k < L.length
                            · have dl : decide (k < L.length) = true := by simp [hkl]
                              have hic := Lib.hid ((hbe.out.cell (p := ⟨ib, ioff + k, none⟩) hibw).trans ((HB13.out.cell (p := ⟨ib, ioff + k, none⟩) hibl).trans (HIC.out k hkl)))
                              have HZP := Lib.hid (show isPtI (L.getD k 0) = true by rw [List.getD_eq_getElem?_getD, List.getElem?_eq_getElem hkl]; exact List.all_eq_true.1 HOK.out _ (List.getElem_mem hkl))
                              obtain ⟨y, hy⟩ : ∃ y, L.getD k 0 = y := ⟨_, rfl⟩
                              rw [hy] at hic HZP HSN
                              clear hy
                              have hck := Lib.hid (show 1 ≤ cap - k ∧ cap - k ≤ maxLen from ⟨by have := hicap.1; omega, Nat.le_trans (Nat.sub_le _ _) hicap.2⟩)
                              have hl7 := Lib.hid (show (Lib.byteCells acc).length + (⟨(U.enc y.toNat).toArray⟩ : ByteArray).size ≤ 140737488355328 by
                                have h1 := (U.esize_pos y.toNat).2
                                have h2 := hbcl.out
                                rw [ba_size, U.enc_length]
                                rw [h2]
                                omega)
                              go_wp2_with (first
                                | (go_at_call 41; refine (make_one (v := .slice (some ⟨ib, ioff + k, none⟩) 1 (cap - k)) HZP.out rfl hck.out (Nat.lt_of_lt_of_le hibw hw3) hic.out).mono ?_; rintro e w6 ⟨rfl, hb6⟩; have hbd6 := builder_below hbd.out hb6; have hs6 := hb6.size; have hi6 := Nat.le_trans hw3 hs6)
                                | (go_at_call 42; refine (writeString_any w3.heap.size w3.heap.size (Lib.byteCells acc) ⟨(U.enc y.toNat).toArray⟩ _ hbd6 hl7.out hi6).mono ?_; rintro e w7 ⟨rfl, hbd7, hb7⟩))
                              have hx := hbd7
                              have ex : Lib.byteCells (acc ++ (digB z ++ (if k < L.length then U.enc y.toNat else []))) = (Lib.byteCells acc) ++ Lib.strCells ⟨(U.enc y.toNat).toArray⟩ := by
                                rw [byteCells_append, byteCells_append, dig_none (by omega), if_pos hkl]
                                rfl
                              rw [← ex] at hx
                              exact ⟨⟨k + 1, _, hlt, by go_num, Lib.hid (.inr hx), Lib.hid ((hbe.out.trans (hb6.mono (by omega))).trans hb7), Lib.hid (by rw [HSN.out, hacc.out, List.append_assoc]), Lib.hid (hall1.out HLV.out)⟩, by simp [intOf]; omega⟩
                            · have dl : decide (k < L.length) = false := by simp [hkl]
                              go_wp2_with fail
                              have hx := hbd.out
                              have ex : Lib.byteCells (acc ++ (digB z ++ (if k < L.length then U.enc (L.getD k 0).toNat else []))) = (Lib.byteCells acc) := by
                                rw [byteCells_append, byteCells_append, dig_none (by omega), if_neg hkl]
                                simp [Lib.byteCells]
                              rw [← ex] at hx
                              exact ⟨⟨k + 1, _, hlt, by go_num, Lib.hid (hx), Lib.hid hbe.out, Lib.hid (by rw [HSN.out, hacc.out, List.append_assoc]), Lib.hid (hall1.out HLV.out)⟩, by simp [intOf]; omega⟩
                    · have hke : k = P.levels.length := by omega
                      have HAL := Lib.hid (lv_yes (fun j hj => hall.out j (by omega)))
                      have hac := Lib.hid (show acc = dotB P.beg ++ bodyB P.levels L by rw [hacc.out, hke, List.take_length])
                      have HP2 := Lib.hid (HPO.out HAL.out)
                      have d7 : decide (k < P.levels.length) = false := by simp [hlt]
                      cases hfin : P.fin
                      · rw [hfin] at v3
                        go_wp2_with (first
                          | (go_at_call 43; (with_reducible refine (string_any w3.heap.size w3.heap.size acc _ hbd.out hw3).mono ?_); rintro e wy ⟨rfl, hby⟩))
                        have HY := Lib.hid (hbe.out.trans hby)
                        refine bodyPost_ret (v := .tuple #[.string ⟨acc.toArray⟩, .int .i64 0]) (by simp [results, Tryd.f18, go_sem]) rfl (printPost (n := 0) (t := acc) (by rw [HP2.out, hac.out, hfin]; simp [dotB]) (HBE.out.trans (HY.out.mono (Nat.le_of_lt hwlt))))
                      · rw [hfin] at v3
                        go_wp2_with (first
                          | (go_at_call 40; refine (writeByte_any w3.heap.size w3.heap.size (Lib.byteCells acc) 46 _ hbd.out (by rw [hbcl.out]; omega) hw3).mono ?_; rintro e w5 ⟨rfl, hbd5, hb5⟩; have hbd6 : Lib.IsBuilder 78 5 w3.heap.size w3.heap.size (Lib.byteCells (acc ++ [46])) w5 := .inr (by rw [byteCells_append]; exact hbd5); have hs5 := hb5.size)
                          | (go_at_call 43; (with_reducible refine (string_any w3.heap.size w3.heap.size (acc ++ [46]) _ hbd6 (by omega)).mono ?_); rintro e wy ⟨rfl, hby⟩))
                        have HY := Lib.hid ((hbe.out.trans hb5).trans hby)
                        refine bodyPost_ret (v := .tuple #[.string ⟨(acc ++ [46]).toArray⟩, .int .i64 0]) (by simp [results, Tryd.f18, go_sem]) rfl (printPost (n := 0) (t := acc ++ [46]) (by rw [HP2.out, hac.out, hfin]; simp [dotB]) (HBE.out.trans (HY.out.mono (Nat.le_of_lt hwlt))))
            · have HP := Lib.hid (printP_form (P := P) hb (by rw [hL]; exact h0) (by rw [hL]; exact h40) hle hfo (by rw [hL]; exact h15))
              have e2 : (P.levels.length = L.length + 1) = False := by simp [h15]
              clear hb hL hle hfo
              go_enter Tryd.func18, Tryd.ntmps18
              go_wp2_with (first
                | (go_at_call 38; refine (HPt.out _).mono ?_; rintro e w1 ⟨ao, cap, rfl, hb1, hrow⟩; have q0 := (hb1.cell (p := ⟨w.heap.size, 0, none⟩) hlt0).trans p0; have lt1 := hsz1 hb1)
                | (go_at_call 39; refine (lets_at P.letters hs _).mono ?_; rw [HLE.out]; rintro e w2 ⟨v2, rfl, hb2⟩; have r0 := (hb2.cell (p := ⟨w.heap.size, 0, none⟩) lt1).trans q0; have lt2 := Nat.lt_of_lt_of_le lt1 hb2.size))
              go_region_held3 (fun w' => w'.cell? ⟨w.heap.size, 0, none⟩ = some (Value.string ⟨P.letters.toArray⟩))
                (first | go_keep)
                (first
                  | (go_at_call 29; refine (fold_at P.letters hs _).mono ?_; rintro e w3 ⟨rfl, hb3⟩; have t0 := (hb3.cell (p := ⟨w.heap.size, 0, none⟩) lt2).trans r0; have HB3 : Hid (Below w2.heap.size w2 w3) := Lib.hid (below_undrewN hb3); clear hb3))
              all_goals
                have HC := Lib.hid (hb1.trans ((hb2.mono hb1.size).trans (HB3.out.mono (Nat.le_trans hb1.size hb2.size))))
                have HBE := Lib.hid (hba.out.trans (HC.out.mono (Nat.le_of_lt hlt0)))
                have HB3' := Lib.hid (HB0.out.below HC.out hlt0)
                obtain ⟨t0, t1, t2, t3⟩ := HB3'.out.four
              all_goals
                go_wp2_with fail
                refine bodyPost_ret (v := .tuple #[.string ⟨#[]⟩, .int .i64 15]) (by simp [results, Tryd.f18, go_sem]) rfl (printPost (n := 15) (t := []) HP.out HBE.out)
          · have HP := Lib.hid (printP_syn (P := P) hb (by rw [hL]; exact h0) (by rw [hL]; exact h40) (.inr hfo))
            have ef : ((⟨(foldP P.letters).toArray⟩ : ByteArray).toList != (⟨P.letters.toArray⟩ : ByteArray).toList) = true := sne_t (fun e => hfo (by have := congrArg (fun b : ByteArray => b.data.toList) e; exact this))
            have eb : (foldP P.letters == P.letters) = false := by rw [beq_eq_false_iff_ne]; exact hfo
            clear hb hL hle hfo
            go_enter Tryd.func18, Tryd.ntmps18
            go_wp2_with (first
              | (go_at_call 38; refine (HPt.out _).mono ?_; rintro e w1 ⟨ao, cap, rfl, hb1, hrow⟩; have q0 := (hb1.cell (p := ⟨w.heap.size, 0, none⟩) hlt0).trans p0; have lt1 := hsz1 hb1)
              | (go_at_call 39; refine (lets_at P.letters hs _).mono ?_; rw [HLE.out]; rintro e w2 ⟨v2, rfl, hb2⟩; have r0 := (hb2.cell (p := ⟨w.heap.size, 0, none⟩) lt1).trans q0; have lt2 := Nat.lt_of_lt_of_le lt1 hb2.size))
            go_region_held3 (fun w' => w'.cell? ⟨w.heap.size, 0, none⟩ = some (Value.string ⟨P.letters.toArray⟩))
              (first | go_keep)
              (first
                | (go_at_call 29; refine (fold_at P.letters hs _).mono ?_; rintro e w3 ⟨rfl, hb3⟩; have t0 := (hb3.cell (p := ⟨w.heap.size, 0, none⟩) lt2).trans r0; have HB3 : Hid (Below w2.heap.size w2 w3) := Lib.hid (below_undrewN hb3); clear hb3))
            all_goals
              have HC := Lib.hid (hb1.trans ((hb2.mono hb1.size).trans (HB3.out.mono (Nat.le_trans hb1.size hb2.size))))
              have HBE := Lib.hid (hba.out.trans (HC.out.mono (Nat.le_of_lt hlt0)))
              have HB3' := Lib.hid (HB0.out.below HC.out hlt0)
              obtain ⟨t0, t1, t2, t3⟩ := HB3'.out.four
            all_goals
              go_wp2_with fail
              refine bodyPost_ret (v := .tuple #[.string ⟨#[]⟩, .int .i64 14]) (by simp [results, Tryd.f18, go_sem]) rfl (printPost (n := 14) (t := []) HP.out HBE.out)
end Go.Proofs.YtdcdlmigagjbiaaDoor
