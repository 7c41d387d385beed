/- The law VolumeLoses walked. -/
import Derived.Test.YtfhcecfddejcdaaVlke
import Derived.Test.YtfhcecfddejcdaaVlop
import Derived.Test.YtfhcecfddejcdaaVent
namespace Go.Proofs.Ytfhcecfddejcdaa
open Go.RowKit Go.Maps

theorem byte_info : (Try.prog.info? 5).map (fun i => (i.zero, i.size, i.bytes)) = some (some (.int .u8 0), 1, 1) := by kernel_rfl
/-- n bytes, the first k of them 1, the rest 0 -/
def oneRow (k n : Nat) : List Value := List.replicate k (.int .u8 1) ++ List.replicate (n - k) (.int .u8 0)
theorem oneRow_len {k n : Nat} (h : k ≤ n) : (oneRow k n).length = n := by simp [oneRow]; omega
theorem oneRow_step {k n : Nat} (h : k < n) : (oneRow k n).set k (.int .u8 1) = oneRow (k + 1) n := by
  unfold oneRow
  rw [List.set_append_right _ _ (by simp), List.length_replicate, Nat.sub_self, show n - k = (n - (k + 1)) + 1 from by omega, List.replicate_succ, List.set_cons_zero, List.replicate_succ', List.append_assoc]
  rfl
def secN (ps : List (Nat × ByteArray)) : List Nat := ps.map (·.1)
theorem secN_step {ps : List (Nat × ByteArray)} {k : Nat} (h : k < ps.length) : (secN ps).take (k + 1) = (secN ps).take k ++ [(ps[k]).1] := by
  unfold secN
  rw [List.take_succ_eq_append_getElem (by simpa using h)]
  simp
set_option maxRecDepth 100000 in
set_option maxHeartbeats 4000000 in
theorem loses_row {w : World} {v sv : Value} {l : List OpV} {cs : List UInt8} (h : Ops w v l) (hs : Byts w sv cs) : Calls Try.prog 7 #[v, sv] w (LawPost w) := by
  have H := Lib.hid h
  have HS := Lib.hid hs
  obtain ⟨sa, scap, rfl, hsl, _⟩ := hs
  have hmm := @run_makeMap Try.prog
  clear h
  go_enter Try.func7, Try.ntmps7
  go_wp2_with fail
  refine (play_any H.out).mono ?_
  rintro e w1 ⟨vb, db, rfl, hp⟩
  obtain ⟨F, G, h1, _⟩ := hp
  generalize plays l 40 = q at h1
  go_wp2_with fail
  refine (known_any _).mono ?_
  rintro e w2 ⟨rfl, hb2⟩
  have h2 := Lib.hid (h1.below hb2)
  clear h1 hb2
  by_cases h100 : cs.length ≤ 100
  · have h100d : decide ((100 : Int) < (cs.length : Int)) = false := by simp; omega
    go_wp2_with fail
    refine (down_own h2.out.1).mono ?_
    rintro e w3 ⟨rfl, rfl⟩
    cases hqd : q.down
    · have HQD := Lib.hid hqd
      clear hqd
      go_wp2_with fail
      have hA : Below w.heap.size w (w2.alloc (.map #[] 0)) := h2.out.2.1.alloc (h2.out.2.1.size) _
      have hT := World.ownsMap_made (H := Unit) w2 Try.prog 3 (plainElem Try.prog 4)
      have h3 := h2.out.below ((Below.refl _ w2).alloc (Nat.le_refl _) (.map #[] 0))
      obtain ⟨tb, htb⟩ : ∃ tb, w2.heap.size = tb := ⟨_, rfl⟩
      obtain ⟨W3, hW3⟩ : ∃ W3, w2.alloc (.map #[] 0) = W3 := ⟨_, rfl⟩
      rw [htb] at hT
      rw [hW3] at hT h3 hA ⊢
      rw [htb]
      have htbF : tb ∉ F := fun hm => by have := h2.out.1.lt tb hm; omega
      have htw : w.heap.size ≤ tb := by have := h2.out.2.1.size; omega
      clear hW3 hA
      obtain ⟨n, hn⟩ : ∃ n, q.pend.length = n := ⟨_, rfl⟩
      have hn4 : n ≤ 4096 := by have := h3.1.wf.room; omega
      refine (pend_own h3.1).mono ?_
      rw [hn]
      rintro e w4 ⟨po, pc, rfl, ho4, hb4⟩
      have h4 := h3.below hb4
      have hT4 := map_turn hT (Turn.ofBelow (F := []) hb4 (Nat.le_refl _)) (by simp)
      obtain ⟨i0, hi0, hz0, hz1, hz2⟩ := info_parts byte_info
      obtain ⟨w5, hmk, ho5, hg5⟩ := run_makeSlice_full (P := Try.prog) w4 0 45 5 i0 (.int .u8 0) 1 Try.underlying45 hi0 hz0 hz1 .i64 .i64 n (by omega) (by rw [hz2]; omega) (by unfold maxLen; omega) (Nat.zero_le _)
      rw [show (madeCells (Value.int .u8 0).cells (n * 1)).toList = oneRow 0 n from by rw [show (Value.int .u8 0).cells = #[.int .u8 0] from rfl, toList_madeCells_one, Nat.mul_one]; simp [oneRow]] at ho5
      obtain ⟨og, hog⟩ : ∃ og, w4.heap.size = og := ⟨_, rfl⟩
      have hgt := (Turn.refl [] w4).grown hg5 (fun _ e => by cases e)
      have hV5 := h4.1.turn (G := []) hgt (fun _ _ => by simp)
      have hB5 : Below w.heap.size w w5 := h4.2.1.trans (hgt.toBelow (B := w.heap.size) (fun _ hi => by simp at hi) h4.2.1.size)
      have hT5 := map_turn hT4 hgt (by simp)
      have hP5 := row_turn ho4 hgt (fun _ _ => by simp)
      have hogF : og ∉ F := fun hm => by have := h4.1.lt og hm; omega
      have hogt : og ≠ tb := by have := hT4.lt; omega
      have hpog : ∀ g, po = some ⟨g, 0, none⟩ → g ≠ og := fun g hg => by have := (ho4.lt g (by rw [hg]; rfl)).2; omega
      have hog3 : w.heap.size ≤ og := by have := h4.2.1.size; omega
      rw [hog] at hmk ho5
      have hF0 : ∀ i, i ∈ F → w.heap.size ≤ i := h4.2.2
      have HQ := Lib.hid (show q.pend.length = n from hn)
      have HI := Lib.hid (And.intro hV5 (And.intro hB5 (And.intro hT5 (And.intro hP5 ho5))))
      clear hi0 hz0 hz1 hz2 hg5 hgt hV5 hB5 hT5 hP5 ho5 ho4 h4 hT4 hb4 h3 hT hn htb hog
      go_wp2_with fail
      go_loopw [11] (fun i wr => ∃ k m : Nat, k ≤ n ∧ i = .int .i64 k ∧ m ≤ k ∧ VolF wr vb q F ∧ Below w.heap.size w wr ∧ wr.ownsMap (H := Unit) Try.prog 3 (plainElem Try.prog 4) tb m (flagMap ((secN q.pend).take k)) ∧
          wr.ownsRow W3.heap.size 3 1 (.slice po n pc) n ((sects q.pend).map (Value.int .i64)) ∧ wr.ownsRow 0 5 1 (.slice (some ⟨og, 0, none⟩) n n) n (oneRow k n)) (fun i _ => n - (intOf i).toNat)
      case atStart => exact ⟨0, 0, Nat.zero_le _, rfl, Nat.le_refl _, HI.out.1, HI.out.2.1, by rw [List.take_zero]; exact HI.out.2.2.1, HI.out.2.2.2.1, HI.out.2.2.2.2⟩
      case round =>
        obtain ⟨k, m, hk, rfl, hmk', hV, hB, hT, hP, hO⟩ := hrel
        clear HI hmk
        by_cases hlt : k < n
        · have hkI : (k : Int) < (n : Int) := by omega
          have hk2 : k < q.pend.length := by rw [HQ.out]; exact hlt
          have hq5 : q.pend[k].1 < q.dur.length := hV.wf.sect _ (List.getElem_mem _)
          have hdl := hV.wf.len
          obtain ⟨s, hs⟩ : ∃ s, (q.pend[k]).1 = s := ⟨_, rfl⟩
          rw [hs] at hq5
          obtain ⟨pg, pc', hpo, _, _⟩ := hP.form (by omega)
          injection hpo with hpo _ hpc
          subst hpo
          subst hpc
          have c1 : wr.cell? ⟨pg, k, none⟩ = some (.int .i64 (s : Int)) := by
            rw [hP.cellAt k (by omega)]
            unfold sects
            rw [List.map_map, List.getElem?_map, List.getElem?_eq_getElem hk2, ← hs]
            rfl
          have hkey : keyOf Try.prog 3 (.int .i64 (s : Int)) = some (key s) := keyOf_int_mk Try.underlying3 (WalkArith.wf_i64 (by omega))
          obtain ⟨v0, stp, wA, wB, hE, hS, hTB, hturn⟩ := entry_own hT ckey Try.underlying47 Try.zeroValue4 (by unfold maxLen; omega) hkey (plainElem_bool Try.underlying4 true)
          have htB : Turn [tb] wr wB := (Turn.refl [tb] wr).grown hturn.grown (fun g hg => .inl (by simpa using hg.symm))
          have hOB := row_turn hO htB (fun g hg => by
            have : og = g := by simpa [Value.ownBlock] using hg
            subst this
            simpa using hogt)
          have hPB := row_turn hP htB (fun g hg => by
            have h1 := map_row_ne hT hP
            have : g ≠ tb := fun e => h1 (by rw [← e]; exact hg)
            simpa using this)
          have hVB := hV.turn htB (fun i hi => by
            have : i ≠ tb := fun e => htbF (e ▸ hi)
            simpa using this)
          have hBB := hB.trans (htB.toBelow (B := w.heap.size) (fun i hi => by simp at hi; omega) hB.size)
          have hcell : wB.cell? ⟨og, k, none⟩ = some (.int .u8 0) := by
            rw [hOB.cellAt k (by omega)]
            unfold oneRow
            rw [List.getElem?_append_right (by simp), List.length_replicate, Nat.sub_self, List.getElem?_replicate, if_pos (by omega)]
          have hfro := hOB.frozenAt k
          have htC : Turn [og] wB (wB.setCell ⟨og, k, none⟩ (.int .u8 1)) := (Turn.refl _ wB).setCell (p := ⟨og, k, none⟩) (.inl (by simp)) _
          have hOC := (hOB.stored k (.int .u8 1)).1
          rw [oneRow_step hlt] at hOC
          have hPC := row_turn hPB htC (fun g hg => by
            have h1 : pg = g := by simpa [Value.ownBlock] using hg
            have : g ≠ og := hpog g (by rw [h1])
            simpa using this)
          have hVC := hVB.turn htC (fun i hi => by
            have : i ≠ og := fun e => hogF (e ▸ hi)
            simpa using this)
          have hTC := map_turn hTB htC (by simpa using fun e => hogt e.symm)
          have hBC := hBB.trans (htC.toBelow (B := w.heap.size) (fun i hi => by simp at hi; omega) hBB.size)
          have hfl : (flagMap ((secN q.pend).take k)).put (key s) (.lit (.bool true)) = flagMap ((secN q.pend).take (k + 1)) := by rw [secN_step hk2, flagMap_snoc, hs]
          rw [hfl] at hTC
          have HN := Lib.hid (And.intro hVC (And.intro hBC (And.intro hTC (And.intro hPC hOC))))
          clear hVC hBC hTC hPC hOC hfl htC hBB hVB hPB hOB htB hTB hturn hV hB hT hP hO hkey hk2 hs hq5
          go_wp2_with fail
          go_roundw
          case rel => exact ⟨k + 1, m + 1, by omega, by go_num, by omega, HN.out.1, HN.out.2.1, HN.out.2.2.1, HN.out.2.2.2.1, HN.out.2.2.2.2⟩
          case measure => simp [intOf]; omega
        · obtain rfl : n = k := by omega
          obtain ⟨w6, hw6⟩ : ∃ w6, w6 = wr := ⟨_, rfl⟩
          rw [← hw6] at hV hB hT hP hO ⊢
          clear hw6 wr
          rw [List.take_of_length_le (by unfold secN; rw [List.length_map, HQ.out]; omega)] at hT
          have hbo : Byts w6 (.slice (some ⟨og, 0, none⟩) n n) (List.replicate n (1 : UInt8)) := by
            refine ⟨some ⟨og, 0, none⟩, n, by rw [List.length_replicate], by rw [List.length_replicate]; omega, fun hp => ⟨og, 0, rfl, ?_, fun j hj => ?_⟩⟩
            · exact (hO.lt og rfl).2
            · rw [List.length_replicate] at hj
              rw [Nat.zero_add, hO.cellAt j (by omega)]
              unfold oneRow
              rw [List.getElem?_append_left (by simpa using hj), List.getElem?_replicate, if_pos hj, List.getD_eq_getElem?_getD, List.getElem?_replicate, if_pos hj]
              rfl
          have hogl := (hO.lt og rfl).2
          have HV := Lib.hid hV
          have HB := Lib.hid hB
          have HT := Lib.hid hT
          have HBO := Lib.hid hbo
          have hdl := hV.wf.len
          have hpl := hP.1
          have HSL := Lib.hid (settle_len q.pend cs q.dur)
          have HFL := Lib.hid (flush_len q.pend q.dur)
          have HOG := Lib.hid hogl
          clear hV hB hT hP hO hbo hpl hogl hogF hogt hpog hog3 hF0 htbF htw hmk'
          go_wp2_with fail
          refine (clone_own HV.out).mono ?_
          rintro e w7 ⟨ca, Fa, rfl, hoa⟩
          have D7 := Lib.hid (Devs.one hoa)
          clear hoa
          go_wp2_with fail
          refine (clone_own (HV.out.below D7.out.1)).mono ?_
          rintro e w8 ⟨cb, Fb, rfl, hob⟩
          have D8 := Lib.hid (D7.out.push hob)
          clear hob D7
          go_wp2_with fail
          refine (clone_own (HV.out.below D8.out.1)).mono ?_
          rintro e w9 ⟨cc, Fc, rfl, hoc⟩
          have D9 := Lib.hid (D8.out.push hoc)
          clear hoc D8
          go_wp2_with fail
          refine (crash_own D9.out.v2).mono ?_
          rintro e w10 ⟨rfl, hs10⟩
          obtain ⟨F10, h10⟩ := D9.out.s2 hs10
          have D10 := Lib.hid h10
          clear hs10 h10 D9
          go_wp2_with fail
          refine (start_opt D10.out.v2 _ [] ⟨none, 0, rfl, by simp, fun h => absurd h (by simp)⟩ (fun h => absurd h (by simp))).mono ?_
          rw [start_none]
          rintro e w11 ⟨rfl, hs11⟩
          obtain ⟨F11, h11⟩ := D10.out.s2 hs11
          have D11 := Lib.hid h11
          clear hs11 h11 D10
          go_wp2_with fail
          refine (crash_own D11.out.v1).mono ?_
          rintro e w12 ⟨rfl, hs12⟩
          obtain ⟨F12, h12⟩ := D11.out.s1 hs12
          have D12 := Lib.hid h12
          clear hs12 h12 D11
          go_wp2_with fail
          refine (start_opt D12.out.v1 _ (List.replicate n 1) (HBO.out.below D12.out.1) (fun _ i hi hm => ?_)).mono ?_
          · have k1 := (D12.out.2.2 (cb, q.crash, F12) (by simp)).2 i hm
            have k2 : og = i := by simpa [Value.ownBlock] using hi
            have := HOG.out
            omega
          rw [← HQ.out, start_ones, HQ.out]
          rintro e w13 ⟨rfl, hs13⟩
          obtain ⟨F13, h13⟩ := D12.out.s1 hs13
          have D13 := Lib.hid h13
          clear hs13 h13 D12
          go_wp2_with fail
          refine (crash_own D13.out.v0).mono ?_
          rintro e w14 ⟨rfl, hs14⟩
          obtain ⟨F14, h14⟩ := D13.out.s0 hs14
          have D14 := Lib.hid h14
          clear hs14 h14 D13
          go_wp2_with fail
          refine (start_opt D14.out.v0 _ cs (HS.out.below (HB.out.trans (D14.out.1.mono HB.out.size))) (fun hp i hi hm => ?_)).mono ?_
          · have k1 := D14.out.off0 i hm
            have k2 := HS.out.lt hp hi
            have := HB.out.size
            omega
          rw [start_some]
          rintro e w15 ⟨rfl, hs15⟩
          obtain ⟨F15, h15⟩ := D14.out.s0 hs15
          have D15 := Lib.hid h15
          clear hs15 h15 D14
          go_wp2_with fail
          go_loopw [15] (fun i wr => ∃ k : Nat, k ≤ q.dur.length ∧ i = .int .i64 k ∧ Devs w6 wr [(cc, ⟨settle q.pend cs q.dur, [], none, false⟩, F15), (cb, ⟨flush q.pend q.dur, [], none, false⟩, F13), (ca, ⟨q.dur, [], none, false⟩, F11)]) (fun i _ => q.dur.length - (intOf i).toNat)
          case atStart => exact ⟨0, Nat.zero_le _, rfl, D15.out⟩
          case round =>
            obtain ⟨j, hj, rfl, hd⟩ := hrel
            have D := Lib.hid hd
            clear hd D15
            by_cases hlt2 : j < q.dur.length
            · have hjI : (j : Int) < (q.dur.length : Int) := by omega
              have HD1 := Lib.hid (durable_in hlt2)
              have HR0 := Lib.hid (read_up HQD.out hlt2)
              have HRA := Lib.hid (show (⟨q.dur, [], none, false⟩ : VS).read (j : Int) = (q.at_ j, 0) from read_still hlt2)
              have HRB := Lib.hid (show (⟨flush q.pend q.dur, [], none, false⟩ : VS).read (j : Int) = (q.content j, 0) from by rw [read_still (by rw [HFL.out]; exact hlt2), flush_at _ _ hlt2]; rfl)
              have hkey : keyOf Try.prog 3 (.int .i64 (j : Int)) = some (key j) := keyOf_int_mk Try.underlying3 (WalkArith.wf_i64 (by omega))
              have HKEY := Lib.hid hkey
              clear hkey
              by_cases htc : j ∈ secN q.pend
              · have HRC := Lib.hid (show (⟨settle q.pend cs q.dur, [], none, false⟩ : VS).read (j : Int) = ((settle q.pend cs q.dur).getD j zb, 0) from read_still (by rw [HSL.out]; exact hlt2))
                generalize (settle q.pend cs q.dur).getD j zb = dz at HRC
                have HFM := Lib.hid (flagMap_at (secN q.pend) j htc (.lit (.bool false)))
                clear htc
                go_wp2_with fail
                refine (len_own (HV.out.below D.out.1)).mono ?_
                rintro e w16 ⟨rfl, rfl⟩
                go_wp2_with fail
                refine (dur_own (j : Int) (HV.out.below D.out.1)).mono ?_
                rw [HD1.out]
                rintro e w17 ⟨rfl, hb17⟩
                have D17 := Lib.hid (D.out.below hb17)
                clear hb17 D
                go_wp2_with fail
                refine (read_any (j : Int) (HV.out.below D17.out.1)).mono ?_
                rw [HR0.out]
                rintro e w18 ⟨rfl, hb18⟩
                have D18 := Lib.hid (D17.out.below hb18)
                clear hb18 D17
                go_wp2_with fail
                refine (read_any (j : Int) D18.out.v2).mono ?_
                rw [HRA.out]
                rintro e w19 ⟨rfl, hb19⟩
                have D19 := Lib.hid (D18.out.below hb19)
                clear hb19 D18
                go_wp2_with fail
                refine (read_any (j : Int) D19.out.v1).mono ?_
                rw [HRB.out]
                rintro e w20 ⟨rfl, hb20⟩
                have D20 := Lib.hid (D19.out.below hb20)
                clear hb20 D19
                go_wp2_with fail
                refine (read_any (j : Int) D20.out.v0).mono ?_
                rw [HRC.out]
                rintro e w21 ⟨rfl, hb21⟩
                have D21 := Lib.hid (D20.out.below hb21)
                clear hb21 D20
                obtain ⟨bv, bp, hlook, hbv⟩ := (map_turn HT.out (Turn.ofBelow (F := []) D21.out.1 (Nat.le_refl _)) (by simp)).lookup ckey Try.underlying47 (z := .bool false) (Try.zeroValue4 _) (plainElem_bool Try.underlying4 false) HKEY.out
                rw [HFM.out] at hbv
                obtain rfl : bv = .bool true := by
                  unfold plainElem at hbv
                  rw [Try.underlying4] at hbv
                  cases bv <;> simp_all
                clear hbv
                go_wp2_with fail
                go_roundw
                case rel => exact ⟨j + 1, by omega, by go_num, D21.out⟩
                case measure => simp [intOf]; omega
              · have HRC := Lib.hid (show (⟨settle q.pend cs q.dur, [], none, false⟩ : VS).read (j : Int) = (q.at_ j, 0) from by rw [read_still (by rw [HSL.out]; exact hlt2), settle_off _ _ _ htc]; rfl)
                have hno := flagMap_has (secN q.pend) j
                rw [decide_eq_false htc] at hno
                have HFM := Lib.hid (show (flagMap (secN q.pend)).atKey (key j) (.lit (.bool false)) = .lit (.bool false) from Maps.atKey_of_not_has hno _)
                clear htc hno
                go_wp2_with fail
                refine (len_own (HV.out.below D.out.1)).mono ?_
                rintro e w16 ⟨rfl, rfl⟩
                go_wp2_with fail
                refine (dur_own (j : Int) (HV.out.below D.out.1)).mono ?_
                rw [HD1.out]
                rintro e w17 ⟨rfl, hb17⟩
                have D17 := Lib.hid (D.out.below hb17)
                clear hb17 D
                go_wp2_with fail
                refine (read_any (j : Int) (HV.out.below D17.out.1)).mono ?_
                rw [HR0.out]
                rintro e w18 ⟨rfl, hb18⟩
                have D18 := Lib.hid (D17.out.below hb18)
                clear hb18 D17
                go_wp2_with fail
                refine (read_any (j : Int) D18.out.v2).mono ?_
                rw [HRA.out]
                rintro e w19 ⟨rfl, hb19⟩
                have D19 := Lib.hid (D18.out.below hb19)
                clear hb19 D18
                go_wp2_with fail
                refine (read_any (j : Int) D19.out.v1).mono ?_
                rw [HRB.out]
                rintro e w20 ⟨rfl, hb20⟩
                have D20 := Lib.hid (D19.out.below hb20)
                clear hb20 D19
                go_wp2_with fail
                refine (read_any (j : Int) D20.out.v0).mono ?_
                rw [HRC.out]
                rintro e w21 ⟨rfl, hb21⟩
                have D21 := Lib.hid (D20.out.below hb21)
                clear hb21 D20
                obtain ⟨bv, bp, hlook, hbv⟩ := (map_turn HT.out (Turn.ofBelow (F := []) D21.out.1 (Nat.le_refl _)) (by simp)).lookup ckey Try.underlying47 (z := .bool false) (Try.zeroValue4 _) (plainElem_bool Try.underlying4 false) HKEY.out
                rw [HFM.out] at hbv
                obtain rfl : bv = .bool false := by
                  unfold plainElem at hbv
                  rw [Try.underlying4] at hbv
                  cases bv <;> simp_all
                clear hbv
                go_wp2_with fail
                go_roundw
                case rel => exact ⟨j + 1, by omega, by go_num, D21.out⟩
                case measure => simp [intOf]; omega
            · obtain rfl : j = q.dur.length := by omega
              go_wp2_with fail
              refine (len_own (HV.out.below D.out.1)).mono ?_
              rintro e w16 ⟨rfl, rfl⟩
              go_wp2
              go_ret
              exact ⟨rfl, HB.out.trans (D.out.1.mono HB.out.size)⟩
    · have HST := Lib.hid (show (q.start cs).down = false from by unfold VS.start; rw [if_pos hqd])
      clear hqd
      go_wp2_with fail
      refine (start_opt h2.out.1 _ cs (HS.out.below h2.out.2.1) (fun hp i hi hm => ?_)).mono ?_
      · have k1 := HS.out.lt hp hi
        have k2 := h2.out.2.2 i hm
        omega
      rintro e w4 ⟨rfl, hs4⟩
      obtain ⟨F4, h4⟩ := h2.out.step hs4
      clear hs4
      go_wp2_with fail
      refine (down_own h4.1).mono ?_
      rw [HST.out]
      rintro e w5 ⟨rfl, rfl⟩
      go_wp2
      go_ret
      exact ⟨rfl, h4.2.1⟩
  · have h100d : decide ((100 : Int) < (cs.length : Int)) = true := by simp; omega
    go_wp2_with fail
    refine (known_any _).mono ?_
    rintro e w3 ⟨rfl, hb3⟩
    have h3 := h2.out.below hb3
    clear hb3
    go_wp2
    go_ret
    exact ⟨rfl, h3.2.1⟩
end Go.Proofs.Ytfhcecfddejcdaa
