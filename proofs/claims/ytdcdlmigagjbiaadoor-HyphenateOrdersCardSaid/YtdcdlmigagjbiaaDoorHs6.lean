/- The law's own levels walked. -/
import Derived.Test.YtdcdlmigagjbiaaDoorHd1
import Derived.Test.YtdcdlmigagjbiaaDoorHs5
import Derived.Deep.QuietTactic
import Derived.BigQuiet
import Derived.IntWalk
import Derived.Deep.DeepCutAuto
namespace Go.Proofs.YtdcdlmigagjbiaaDoor
open Go.RowKit Go.Maps
theorem drop_ints {w : World} {b off n cap at_ : Nat} {L : List Int} (h : at_ + n ≤ L.length) (hlc : L.length ≤ cap) (hcm : cap ≤ maxLen) (hlt : b < w.heap.size) (hc : ∀ j, j < L.length → w.cell? ⟨b, off + j, none⟩ = some (.int .i64 (L.getD j 0))) :
    Ints w (.slice (some ⟨b, off + at_, none⟩) n (cap - at_)) ((L.drop at_).take n) := by
  have hl : ((L.drop at_).take n).length = n := by rw [List.length_take, List.length_drop]; omega
  refine ⟨_, _, by rw [hl], by rw [hl]; omega, by omega, fun _ => ⟨b, off + at_, rfl, hlt, fun j hj => ?_⟩⟩
  rw [hl] at hj
  rw [show off + at_ + j = off + (at_ + j) from by omega, hc _ (by omega)]
  simp [List.getD_eq_getElem?_getD, List.getElem?_drop, hj]
set_option maxRecDepth 100000 in
set_option maxHeartbeats 16000000 in
theorem dlevels_any (D : DictV) (w : World) (H : D.At w) (L : List Int) (lv : Value) (hL : Ints w lv L) (hL0 : 0 < L.length) (hL64 : L.length ≤ 64) (hpl : ∀ s, s ∈ D.pats → s.length ≤ 1000000) (hz : ∀ s, s ∈ D.pats → (parseP s).1 = 0) (hpn : D.pats.length ≤ 4096) :
    Calls Tryd.prog 32 #[D.val, lv] w (LevPost (levelsP (D.pats.map fun s => (parseP s).2) L) w) := by
  obtain ⟨pv, ev, pats, exs, left, right⟩ := D
  obtain ⟨hp0, _, _, _⟩ := H
  have hp : Strs w pv pats := hp0
  clear hp0
  have hpl' : ∀ s, s ∈ pats → s.length ≤ 1000000 := hpl
  clear hpl
  have hpl := hpl'
  clear hpl'
  have hz : ∀ s, s ∈ pats → (parseP s).1 = 0 := hz
  have hpn : pats.length ≤ 4096 := hpn
  show Calls Tryd.prog 32 #[.agg #[pv, ev, .int .i64 left, .int .i64 right], lv] w (LevPost (levelsP (pats.map fun s => (parseP s).2) L) w)
  obtain ⟨pao, pcap, rfl, _⟩ := id hp
  obtain ⟨lao, lcap, rfl⟩ := hL.shape
  obtain ⟨ib, ioff, rfl, hibl, hic, hlc, hcm⟩ := ints_pos hL hL0
  have HPL := Lib.hid hpl
  have HZ := Lib.hid hz
  have HPS := Lib.hid hp
  have HIC := Lib.hid hic
  have hmk := make_ints L.length (by omega)
  have HBK := Lib.hid (Blk.new w 44 #[.slice pao pats.length pcap, ev, .int .i64 left, .int .i64 right])
  have HBW := Lib.hid ((Below.refl w.heap.size w).alloc (Nat.le_refl _) (.cells #[.slice pao pats.length pcap, ev, .int .i64 left, .int .i64 right] 44))
  have hsW : (w.alloc (.cells #[.slice pao pats.length pcap, ev, .int .i64 left, .int .i64 right] 44)).heap.size = w.heap.size + 1 := by simp
  obtain ⟨Q, hQ⟩ : ∃ Q, (pats.map fun s => (parseP s).2) = Q := ⟨_, rfl⟩
  have hQl : Q.length = pats.length := by rw [← hQ, List.length_map]
  have HQG := Lib.hid (show ∀ j, j < pats.length → Q.getD j .zero = (parseP (pats.getD j [])).2 from fun j hj => by
    rw [← hQ, List.getD_eq_getElem?_getD, List.getD_eq_getElem?_getD, List.getElem?_map, List.getElem?_eq_getElem hj]; rfl)
  rw [hQ]
  clear hp hpl hz hic hL hQ
  obtain ⟨W, hW⟩ : ∃ W, w.alloc (.cells #[.slice pao pats.length pcap, ev, .int .i64 left, .int .i64 right] 44) = W := ⟨_, rfl⟩
  rw [hW] at HBK HBW hsW
  have hsWa : W.heap.size ≤ w.heap.size + 1 := Nat.le_of_eq hsW
  have hsWb : w.heap.size + 1 ≤ W.heap.size := Nat.le_of_eq hsW.symm
  clear hsW
  have HO1 := Lib.hid (Blk.new W 3 (OC (List.replicate (L.length + 1) 0)))
  have HBa := Lib.hid ((Below.refl W.heap.size W).alloc (Nat.le_refl _) (.cells (OC (List.replicate (L.length + 1) 0)) 3))
  go_enter Tryd.func32, Tryd.ntmps32
  go_wp2_with fail
  go_loopw [6] (fun i wr => ∃ (a : Nat) (out : List Int), a ≤ pats.length ∧ i = .int .i64 (a : Int) ∧ out.length = L.length + 1 ∧ Hid (Blk wr W.heap.size 3 (OC out)) ∧ Hid (Below W.heap.size W wr) ∧ Hid (LvS (allC (Q.take a) L) out)) (fun i _ => pats.length - (intOf i).toNat)
  case atStart => exact ⟨0, List.replicate (L.length + 1) 0, Nat.zero_le _, rfl, by simp, HO1, HBa, Lib.hid (LvS.zero _ (fun j y h => allC_none L j y h))⟩
  case round =>
    obtain ⟨a, out, ha, rfl, hol, HO, HB, HS⟩ := hrel
    have hws := HB.out.size
    have HBT := Lib.hid (HBW.out.trans (HB.out.mono (by omega)))
    obtain ⟨c0, c1, c2, c3⟩ := (HBK.out.below HB.out (by omega)).four
    by_cases hlt : a < pats.length
    · obtain ⟨pb, poff, rfl, hcell⟩ := strs_at HPS.out HBT.out hlt
      have HM := Lib.hid (getD_in (d := []) hlt)
      have hQa := HQG.out a hlt
      have HTQ := Lib.hid (show a < Q.length by omega)
      obtain ⟨s, hs⟩ : ∃ s, pats.getD a [] = s := ⟨_, rfl⟩
      rw [hs] at hcell HM hQa
      have hsl := HPL.out s HM.out
      have HP2 := Lib.hid (fun w => parse2_any s hsl w)
      have h20 := (parse_par2 s).1 (HZ.out s HM.out)
      have hpq := parse_par2_eq h20
      obtain ⟨P, ok, hpk⟩ : ∃ P ok, par2 s = (P, ok) := ⟨_, _, rfl⟩
      unfold Par2Post at HP2
      rw [hpk] at HP2 h20 hpq
      obtain rfl : ok = true := h20
      have HPQ := Lib.hid (show Q.getD a .zero = P by rw [hQa, hpq])
      obtain ⟨hpp, hle, hl40, hlp⟩ := parseP_zero (s := s) (HZ.out s HM.out)
      rw [hpq] at hpp hle hl40 hlp
      have HLE := Lib.hid hle
      have hlv := printP_lv hpp
      have hPl : P.letters.length ≤ 4294967296 := by
        have h3 := encI_le (ptsI P.letters)
        rw [encI_valid (l := P.letters) (letsP_iff.1 hle).1] at h3
        have h5 : (ptsI P.letters).length ≤ 40 := hl40
        omega
      have HLT := Lib.hid (fun w => lets2_yes hle hPl w)
      obtain ⟨q, hq⟩ : ∃ q, ptsI P.letters = q := ⟨_, rfl⟩
      have hlva : P.levels.length ≤ q.length + 1 := by rw [← hq]; exact Nat.le_of_eq hlv
      have hlvb : q.length + 1 ≤ P.levels.length := by rw [← hq]; exact Nat.le_of_eq hlv.symm
      have hq40 : q.length ≤ 40 := by rw [← hq]; exact hl40
      have hqp : 0 < q.length := by rw [← hq]; exact Nat.pos_of_ne_zero hlp
      rw [hq] at HLT
      have HQP := Lib.hid (show qL P = q from hq)
      clear hlv hl40 hlp
      clear hs hQa hpk hpq hpp hle hq
      go_wp2_with (first
        | (go_at_call 22; refine (HP2.out _).mono ?_; rintro e w2 ⟨qv, rfl, hb2, hr2⟩; unfold patV; obtain ⟨vao, vcap, rfl⟩ := row_slice hr2; have hs2 := hb2.size; have BP2 := Lib.hid (Blk.new w2 33 #[.string ⟨P.letters.toArray⟩, .slice vao P.levels.length vcap, .bool P.beg, .bool P.fin]); have HB2 := Lib.hid ((HB.out.trans (hb2.mono hws)).alloc (by omega) (.cells #[.string ⟨P.letters.toArray⟩, .slice vao P.levels.length vcap, .bool P.beg, .bool P.fin] 33)); have HR2 := Lib.hid ((Ints.of_owns hr2).below ((Below.refl _ w2).alloc (Nat.le_refl _) (.cells #[.string ⟨P.letters.toArray⟩, .slice vao P.levels.length vcap, .bool P.beg, .bool P.fin] 33))); have HR2b := Lib.hid (row_base hr2); have HO2 := Lib.hid ((HO.out.below hb2 HO.out.lt).alloc (.cells #[.string ⟨P.letters.toArray⟩, .slice vao P.levels.length vcap, .bool P.beg, .bool P.fin] 33)); have hsA : (w2.alloc (.cells #[.string ⟨P.letters.toArray⟩, .slice vao P.levels.length vcap, .bool P.beg, .bool P.fin] 33)).heap.size = w2.heap.size + 1 := (by simp); obtain ⟨p0, p1, p2, p3⟩ := BP2.out.four; clear hb2 hr2)
        | (go_at_call 44; refine (HLT.out _).mono ?_; rintro e w3 ⟨qao, qcap, rfl, hb3, hr3⟩; have hs3 := hb3.size; have HB3 := Lib.hid (HB2.out.trans (hb3.mono (by omega))); have BP3 := Lib.hid (BP2.out.below hb3 BP2.out.lt); have HR3 := Lib.hid (HR2.out.below hb3); have HO3 := Lib.hid (HO2.out.below hb3 HO2.out.lt); have HL3 := Lib.hid (IntRow.weak hr3.out (show w2.heap.size ≤ _ by omega)); clear hb3 hr3))
      obtain ⟨vb, vo, rfl, hvlt, hvc, hvl, hvm⟩ := ints_pos HR3.out (by omega)
      have HVC := Lib.hid hvc
      have hvbW : W.heap.size < vb := by have := HR2b.out vb rfl; have := HO.out.lt; omega
      have hgp : w2.heap.size < w3.heap.size := by omega
      have hgW : W.heap.size < w2.heap.size := by have := HO.out.lt; omega
      have hwW3 := HB3.out.size
      clear hvc HO HB HBT c0 c1 c2 c3 HO2 HB2 HR2 HP2 HLT
      go_loopw [11] (fun i wr => ∃ (at_ : Nat) (out : List Int), at_ ≤ L.length ∧ i = .int .i64 (at_ : Int) ∧ out.length = L.length + 1 ∧ Hid (Blk wr W.heap.size 3 (OC out)) ∧ Hid (Below W.heap.size W wr) ∧ Hid (Turn [W.heap.size] w3 wr) ∧ Hid (LvS (E1 Q L a P at_) out)) (fun i _ => L.length + 1 - (intOf i).toNat)
      case atStart => exact ⟨0, out, Nat.zero_le _, rfl, hol, HO3, HB3, Lib.hid (Turn.refl _ _), Lib.hid (HS.out.congr (fun j y => (E1_start Q L a P j y).symm))⟩
      case round =>
        clear HS hol HO3
        obtain ⟨at_, out, hat, rfl, hol, HO, HB, HT, HS⟩ := hrel
        have hwr := HT.out.size
        obtain ⟨p0, p1, p2, p3⟩ := (BP3.out.turn HT.out (by simp; omega)).four
        by_cases hin : at_ + q.length ≤ L.length
        · have di : decide ((at_ : Int) + (q.length : Int) ≤ (L.length : Int)) = true := by simp; omega
          have di2 : decide (at_ + q.length ≤ L.length) = true := by simp [hin]
          have HMT := Lib.hid (match_test (l := L) (P := P) (at_ := at_) (by rw [HQP.out]; exact hin))
          rw [HQP.out] at HMT
          go_upto_region 10 with fail
          go_cut [78] (fun v w' => v = .bool (!matchB L P at_) ∧ Below wr.heap.size wr w')
          case first =>
            obtain ⟨bb, hbb⟩ : ∃ b, P.beg = b := ⟨_, rfl⟩
            obtain ⟨fb, hfb⟩ : ∃ b, P.fin = b := ⟨_, rfl⟩
            obtain ⟨z0, hz0⟩ : ∃ b, decide (0 < at_) = b := ⟨_, rfl⟩
            obtain ⟨l1, hl1⟩ : ∃ b, decide (at_ + q.length < L.length) = b := ⟨_, rfl⟩
            have hl2 : decide ((at_ : Int) + (q.length : Int) < (L.length : Int)) = l1 := by rw [← hl1]; congr 1; simp; omega
            obtain ⟨sm, hsm⟩ : ∃ b, ((L.drop at_).take q.length == q) = b := ⟨_, rfl⟩
            have HMV := Lib.hid (show (!matchB L P at_) = ((bb && z0) || (fb && l1) || !sm) from by
              have e : decide ((L.drop at_).take q.length = q) = sm := by rw [← hsm]; by_cases e : (L.drop at_).take q.length = q <;> simp [e]
              rw [HMT.out, hbb, hfb, hz0, hl1, e, Bool.not_not])
            have HSM := Lib.hid hsm
            have HSA := Lib.hid (drop_ints (n := q.length) (at_ := at_) hin hlc hcm (Nat.lt_of_lt_of_le hibl (HBW.out.trans (HB.out.mono (by omega))).size) (fun j hj => ((HBW.out.trans (HB.out.mono (by omega))).cell (p := ⟨ib, ioff + j, none⟩) hibl).trans (HIC.out j hj)))
            rw [hbb] at p2
            rw [hfb] at p3
            clear hsm hbb hfb
            cases bb <;> cases z0 <;> cases fb <;> cases l1
            all_goals
              go_wp2_with (go_at_call 28; refine (same_any _ _ ((L.drop at_).take q.length) q _ (by rw [List.length_take]; omega) (by omega) HSA.out (Ints.of_owns (row_turn HL3.out HT.out (fun g hg hm => by have := row_base HL3.out g hg; simp at hm; omega)))).mono ?_; unfold SamePost; rw [HSM.out]; rintro e w5 ⟨rfl, hb5⟩)
              go_meet
              case rel =>
                first
                  | exact ⟨by rw [HMV.out]; rfl, Below.refl _ _⟩
                  | exact ⟨by rw [HMV.out]; rfl, hb5⟩
          case rest =>
            obtain ⟨rfl, hb4⟩ := hcut
            have hs4 := hb4.size
            have HB4 := Lib.hid (HB.out.trans (hb4.mono (by omega)))
            have HT4 := Lib.hid (HT.out.below hb4 (by omega))
            have HO4 := Lib.hid (HO.out.below hb4 HO.out.lt)
            clear hb4
            cases hm : matchB L P at_ with
            | false =>
              have HSK := Lib.hid (HS.out.congr (E1_skip (pats := Q) (i := a) hm))
              clear hm
              go_wp2_with fail
              exact ⟨⟨at_ + 1, out, by omega, by go_num, hol, HO4, HB4, HT4, HSK⟩, by simp [intOf]; omega⟩
            | true =>
              have HM2 := Lib.hid hm
              clear hm
              go_wp2_with fail
              go_loopw [12] (fun i wr => ∃ (K : Nat) (out : List Int), K ≤ P.levels.length ∧ i = .int .i64 (K : Int) ∧ out.length = L.length + 1 ∧ Hid (Blk wr W.heap.size 3 (OC out)) ∧ Hid (Below W.heap.size W wr) ∧ Hid (Turn [W.heap.size] w3 wr) ∧ Hid (LvS (E2 Q L a P at_ K) out)) (fun i _ => P.levels.length - (intOf i).toNat)
              case atStart => exact ⟨0, out, Nat.zero_le _, rfl, hol, HO4, HB4, HT4, Lib.hid (HS.out.congr (fun j y => (E2_start Q L a P at_ j y).symm))⟩
              case round =>
                clear HO4 HB4 HT4 HS hol HO HB HT p0 p1 p2 p3
                obtain ⟨K, out, hK, rfl, hol, HO, HB, HT, HS⟩ := hrel
                obtain ⟨p0, p1, p2, p3⟩ := (BP3.out.turn HT.out (by simp; omega)).four
                by_cases hKl : K < P.levels.length
                · have hl1 := (HT.out.cell (p := ⟨vb, vo + K, none⟩) hvlt (by simp; omega)).trans (HVC.out K hKl)
                  obtain ⟨x, hx⟩ : ∃ x, P.levels.getD K 0 = x := ⟨_, rfl⟩
                  have hx2 : P.levels[K]? = some x := by rw [← hx, List.getD_eq_getElem?_getD, List.getElem?_eq_getElem hKl]; rfl
                  rw [hx] at hl1
                  obtain ⟨y, hy⟩ : ∃ y, out[at_ + K]? = some y := ⟨_, List.getElem?_eq_getElem (by omega)⟩
                  have ho1 := (HO.out.cell (at_ + K)).trans (OC_get hy)
                  have ho2 := HO.out.frozen (at_ + K)
                  have HX2 := Lib.hid hx2
                  have HY := Lib.hid hy
                  have HOs := HO.out.set_ (at_ + K) (.int .i64 (max y x))
                  rw [OC_set] at HOs
                  have HOs := Lib.hid HOs
                  have HBs := Lib.hid (HB.out.setCell (p := ⟨W.heap.size, at_ + K, none⟩) (Nat.le_refl _) (.int .i64 (max y x)))
                  have HTs := Lib.hid (HT.out.setCell (p := ⟨W.heap.size, at_ + K, none⟩) (.inl (by simp)) (.int .i64 (max y x)))
                  have hak : (at_ : Int) + (K : Int) < (L.length : Int) + 1 := by omega
                  clear hx hx2 hy
                  go_wp2_with fail
                  apply region_one
                  · have zi0 : (0 : Int) ≤ (at_ : Int) + (K : Int) := by omega
                    have zi3 : ((at_ : Int) + (K : Int)).toNat = at_ + K := by omega
                    have ziw : IntKind.i64.wrap ((at_ : Int) + (K : Int)) = (at_ : Int) + (K : Int) := IntWalk.i64_in _ (by omega)
                    go_region_law (fail)
                    all_goals exact ⟨rfl, rfl⟩
                  go_wp2_with fail
                  refine ⟨?_, by simp [intOf]; omega⟩
                  repeat apply Exists.intro
                  exact ⟨⟨K + 1, out.set (at_ + K) (max y x), hKl, by go_num, by simp [hol], Lib.hid (Blk.drew HOs.out), Lib.hid (below_drew HBs.out), Lib.hid (Turn.drew HTs.out), Lib.hid (HS.out.step HY.out x (E2_step Q L a P at_ K HX2.out))⟩, rfl⟩
                · have hKe : K = P.levels.length := by omega
                  subst hKe
                  have HSE := Lib.hid (HS.out.congr (E2_end (pats := Q) (i := a) HM2.out))
                  go_wp2_with fail
                  exact ⟨⟨at_ + 1, out, by omega, by go_num, hol, HO, HB, HT, HSE⟩, by simp [intOf]; omega⟩
        · have di : decide ((at_ : Int) + (q.length : Int) ≤ (L.length : Int)) = false := by simp; omega
          have di2 : decide (at_ + q.length ≤ L.length) = false := by simp; omega
          have HSE := Lib.hid (HS.out.congr (E1_end (pats := Q) HTQ.out HPQ.out (by rw [HQP.out]; omega)))
          go_wp2_with fail
          exact ⟨⟨a + 1, out, hlt, by go_num, hol, HO, HB, HSE⟩, by simp [intOf]; omega⟩
    · have hae : a = pats.length := by omega
      have HSE := Lib.hid (show LvS (allC Q L) out by have := HS.out; rwa [hae, ← hQl, List.take_length] at this)
      have HUQ := Lib.hid (levelsP_uniq HSE.out hol)
      have d7 : decide (a < pats.length) = false := by simp [hlt]
      go_wp2_with fail
      refine bodyPost_ret (v := .slice (some ⟨W.heap.size, 0, none⟩) (L.length + 1) (L.length + 1)) (by simp [results, Tryd.f32, go_sem]) rfl ⟨_, rfl, HBT.out, by
        have h1 := blk_row (B := w.heap.size) HO.out (by omega) (by omega)
        rw [← HUQ.out, ← hol]
        exact h1⟩
end Go.Proofs.YtdcdlmigagjbiaaDoor
