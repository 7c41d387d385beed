/- A header is read: the sector holds one. -/
import Derived.Test.YtfdnpchbbngpjaaGreatJrg
import Derived.Test.YtfdnpchbbngpjaaGreatJtk
namespace Go.Proofs.YtfdnpchbbngpjaaGreat
attribute [local go_sem ↓] Go.wp_at_zero Go.wp_at_succ
open Go.RowKit Go.Maps

theorem keep4n {W : World} {b : Nat} {v0 v1 v2 v3 : Value} (h0 : W.cell? ⟨b, 0, none⟩ = some v0) (h1 : W.cell? ⟨b, 1, none⟩ = some v1) (h2 : W.cell? ⟨b, 2, none⟩ = some v2) (h3 : W.cell? ⟨b, 3, none⟩ = some v3) :
    (((((W.drewN 1).setCell ⟨b, 0, none⟩ v0).setCell ⟨b, 1, none⟩ v1).setCell ⟨b, 2, none⟩ v2).setCell ⟨b, 3, none⟩ v3).cell? ⟨b, 0, none⟩ = some v0 ∧ (((((W.drewN 1).setCell ⟨b, 0, none⟩ v0).setCell ⟨b, 1, none⟩ v1).setCell ⟨b, 2, none⟩ v2).setCell ⟨b, 3, none⟩ v3).cell? ⟨b, 1, none⟩ = some v1 ∧
    (((((W.drewN 1).setCell ⟨b, 0, none⟩ v0).setCell ⟨b, 1, none⟩ v1).setCell ⟨b, 2, none⟩ v2).setCell ⟨b, 3, none⟩ v3).cell? ⟨b, 2, none⟩ = some v2 ∧ (((((W.drewN 1).setCell ⟨b, 0, none⟩ v0).setCell ⟨b, 1, none⟩ v1).setCell ⟨b, 2, none⟩ v2).setCell ⟨b, 3, none⟩ v3).cell? ⟨b, 3, none⟩ = some v3 := by
  refine ⟨?_, ?_, ?_, ?_⟩ <;> simp [go_sem, h0, h1, h2, h3]

set_option maxRecDepth 100000 in
set_option maxHeartbeats 40000000 in
theorem rhead_c {w : World} {vb tb : Nat} {st : VS} {F : List Nat} (hP : Pr w vb st tb F) (hd : st.down = false) {m : Nat} (hl : st.dur.length = m + 2) (k : Nat) (hk : k < 2) (hg : ((st.sct k).take 4 == magicL) = true) (hc : (field (st.sct k) 36 4 == crc ((st.sct k).take 36)) = true) :
    Calls Tryz.prog 80 #[.pointer (some ⟨vb, 0, none⟩), .pointer (some ⟨tb, 0, none⟩), .int .i64 (k : Int)] w fun e w' => e = .returned (.tuple #[.agg (hcells (readHd (st.sct k) k (256 * m)).1), .bool (readHd (st.sct k) k (256 * m)).2]) ∧ Pr w' vb st tb F ∧ Turn [tb] w w' ∧ Tb w' tb 1 0 crc8 := by
  have hrd := read_in hd (k := k) (by omega)
  have hs := hP.vol.wf.content k
  have hsc : st.sct k = (st.content k).data.toList := rfl
  obtain ⟨s, hs0⟩ : ∃ s, st.content k = s := ⟨_, rfl⟩
  rw [hs0] at hs hrd hsc
  rw [hsc] at hg hc
  have HR := Lib.hid hrd
  have e4 := magic_eq (s := s)
  rw [hg] at e4
  have hgood : hdGood s.data.toList = true := by unfold hdGood; rw [hg, hc]; rfl
  have ec : (valI (List.take 4 (List.drop 36 s.data.toList)) != (crc (List.take 36 s.data.toList) : Int)) = false := by
    have h4 := valI_seg4 s 36 40 (by decide)
    rw [ext_seg] at h4
    rw [show (40 : Nat) - 36 = 4 from rfl] at h4
    rw [h4, bne_eq_false_iff_eq]
    rw [beq_iff_eq] at hc
    rw [hc]
  have HG := Lib.hid (And.intro hgood hsc)
  have zx : ∀ a b, (s.extract a b).size ≤ 281474976710656 := fun a b => by rw [ByteArray.size_extract]; omega
  have b0 : Blk (w.alloc (.cells #[.int .i64 0, .int .i64 0, .int .i64 0, .int .i64 0] 85)) w.heap.size 85 #[.int .i64 0, .int .i64 0, .int .i64 0, .int .i64 0] := Blk.new _ _ _
  have htl := hP.tab.lt
  have hne : w.heap.size ∉ [tb] := by simp; omega
  have z36 : (s.extract 36 40).size ≤ 281474976710656 := by rw [ByteArray.size_extract]; omega
  have z0 : (s.extract 0 36).size ≤ 1048576 := by rw [ByteArray.size_extract]; omega
  clear hrd hg hsc hs0 hc hgood
  go_enter Tryz.func80, Tryz.ntmps80
  go_wp2_with (first
    | (go_at_call 37; refine (read_any (k : Int) (hP.below ((Below.refl _ w).alloc (Nat.le_refl _) _)).vol).mono ?_; rw [HR.out]; rintro e w1 ⟨rfl, hb1⟩; have b1 := b0.below hb1 b0.lt; have hbw : Below w.heap.size w w1 := ((Below.refl _ w).alloc (Nat.le_refl _) _).trans (hb1.mono (by simp)); have HP1 := Lib.hid (hP.below hbw)))
  have HLF := Lib.hid hP.vol.lt
  clear hP
  go_region_held3 (fun _ => True) (first | trivial)
    (first
      | (go_at_call 83; refine (value_any _ z36 _).mono ?_; rintro e w2 ⟨rfl, rfl⟩)
      | (go_at_call 49; refine (checksum_any _ z0 (Tab.below (HP1.out.tab) (below_drewN (n := 1) (Below.refl _ _)) HP1.out.tab.lt)).mono ?_; rintro e w3 ⟨rfl, hD3, ht3⟩; have hT3 : Tab w3 tb := .inr hD3))
  have b3 := Blk.turn (Blk.drewN b1 1) ht3 hne
  have c0 := b3.cell 0
  have c1 := b3.cell 1
  have c2 := b3.cell 2
  have c3 := b3.cell 3
  have f0 := b3.frozen 0
  have f1 := b3.frozen 1
  have f2 := b3.frozen 2
  have f3 := b3.frozen 3
  simp at c0 c1 c2 c3
  have hp3 := (HP1.out.below (below_drewN (n := 1) (Below.refl _ _))).tabs ht3 hT3
  have t3 : Turn [tb] w w3 := (Turn.ofBelow hbw (Nat.le_refl _)).trans (Turn.mono (F := [tb]) (G := [tb]) ⟨ht3.os, ht3.tape, ht3.output, ht3.size, ht3.block⟩ (fun i hi => hi)) (fun i hi => .inl hi)
  have HP3 := Lib.hid hp3
  have HD3 := Lib.hid hD3
  have T3 := Lib.hid t3
  clear hp3 t3 hT3 hD3 ht3 b1 b0 hbw hb1
  go_wp2_with fail
  go_region_held3 (fun _ => True) (first | trivial)
    (first
      | (go_at_call 83; refine (value_any _ (zx _ _) _).mono ?_; rintro e w' ⟨rfl, rfl⟩))
  obtain ⟨v0, hv0⟩ : ∃ v, valI (List.take 8 (List.drop 4 s.data.toList)) = v := ⟨_, rfl⟩
  obtain ⟨v1, hv1⟩ : ∃ v, valI (List.take 8 (List.drop 12 s.data.toList)) = v := ⟨_, rfl⟩
  obtain ⟨v2, hv2⟩ : ∃ v, valI (List.take 8 (List.drop 20 s.data.toList)) = v := ⟨_, rfl⟩
  obtain ⟨v3, hv3⟩ : ∃ v, valI (List.take 8 (List.drop 28 s.data.toList)) = v := ⟨_, rfl⟩
  have HVV := Lib.hid (And.intro hv0 (And.intro hv1 (And.intro hv2 hv3)))
  rw [hv0, hv1, hv2, hv3]
  clear hv0 hv1 hv2 hv3
  have b4 : Blk ((((w3.setCell ⟨w.heap.size, 0, none⟩ (.int .i64 v0)).setCell ⟨w.heap.size, 1, none⟩ (.int .i64 v1)).setCell ⟨w.heap.size, 2, none⟩ (.int .i64 v2)).setCell ⟨w.heap.size, 3, none⟩ (.int .i64 v3)).drew w.heap.size 85 #[.int .i64 v0, .int .i64 v1, .int .i64 v2, .int .i64 v3] :=
    ((((b3.set_ 0 _).set_ 1 _).set_ 2 _).set_ 3 _).drew
  have t4 : Turn [w.heap.size] w3 ((((w3.setCell ⟨w.heap.size, 0, none⟩ (.int .i64 v0)).setCell ⟨w.heap.size, 1, none⟩ (.int .i64 v1)).setCell ⟨w.heap.size, 2, none⟩ (.int .i64 v2)).setCell ⟨w.heap.size, 3, none⟩ (.int .i64 v3)).drew :=
    (((((Turn.refl [w.heap.size] w3).setCell (.inl (by simp)) _).setCell (.inl (by simp)) _).setCell (.inl (by simp)) _).setCell (.inl (by simp)) _).drew
  obtain ⟨W4, hW4⟩ : ∃ W, ((((w3.setCell ⟨w.heap.size, 0, none⟩ (.int .i64 v0)).setCell ⟨w.heap.size, 1, none⟩ (.int .i64 v1)).setCell ⟨w.heap.size, 2, none⟩ (.int .i64 v2)).setCell ⟨w.heap.size, 3, none⟩ (.int .i64 v3)).drew = W := ⟨_, rfl⟩
  rw [hW4] at b4 t4 ⊢
  clear hW4 c0 c1 c2 c3 f0 f1 f2 f3 b3
  have hp4 : Pr W4 vb st tb F := ⟨HP3.out.vol.turn t4 (fun i hi => by have := HLF.out i hi; simp; omega), HP3.out.tab.turn t4 (by simp; omega), HP3.out.off⟩
  have t5 : Turn [tb] w W4 := T3.out.trans t4 (fun i hi => by simp at hi; subst hi; exact .inr (Nat.le_refl _))
  have HP4 := Lib.hid (And.intro hp4 t5)
  have HD4 := Lib.hid (Blk.turn HD3.out t4 (by simp; omega))
  clear hp4 t5 t4 HP3 T3 HP1
  have c0 := b4.cell 0
  have c1 := b4.cell 1
  have c2 := b4.cell 2
  have c3 := b4.cell 3
  simp at c0 c1 c2 c3
  go_wp2_with fail
  have b5 : Blk (W4.alloc (.cells #[.int .i64 v0, .int .i64 v1, .int .i64 v2, .int .i64 v3] 3)) W4.heap.size 3 #[.int .i64 v0, .int .i64 v1, .int .i64 v2, .int .i64 v3] := Blk.new _ _ _
  have b4' := b4.alloc (.cells #[.int .i64 v0, .int .i64 v1, .int .i64 v2, .int .i64 v3] 3)
  have hb5 : Below W4.heap.size W4 (W4.alloc (.cells #[.int .i64 v0, .int .i64 v1, .int .i64 v2, .int .i64 v3] 3)) := (Below.refl _ W4).alloc (Nat.le_refl _) _
  obtain ⟨W5, hW5⟩ : ∃ W, (W4.alloc (.cells #[.int .i64 v0, .int .i64 v1, .int .i64 v2, .int .i64 v3] 3)) = W := ⟨_, rfl⟩
  rw [hW5] at b5 b4' hb5 ⊢
  clear hW5 c0 c1 c2 c3
  have HD5 := Lib.hid (Blk.below HD4.out hb5 (Blk.lt HD4.out))
  have HP5 := Lib.hid (And.intro (HP4.out.1.below hb5) (HP4.out.2.below hb5 HP4.out.2.size))
  have hlt4 := b4.lt
  have hv : ∀ j : Nat, j < 4 → W5.cell? ⟨W4.heap.size, j, none⟩ = some (.int .i64 (nth4 v0 v1 v2 v3 j)) := by
    intro j hj
    rw [b5.cell j]
    match j, hj with
    | 0, _ => rw [nth4_0]; rfl
    | 1, _ => rw [nth4_1]; rfl
    | 2, _ => rw [nth4_2]; rfl
    | 3, _ => rw [nth4_3]; rfl
  have HVJ := Lib.hid hv
  clear hv b4 hb5 b5 HP4
  have c0 := b4'.cell 0
  have c1 := b4'.cell 1
  have c2 := b4'.cell 2
  have c3 := b4'.cell 3
  have f0 := b4'.frozen 0
  have f1 := b4'.frozen 1
  have f2 := b4'.frozen 2
  have f3 := b4'.frozen 3
  simp at c0 c1 c2 c3
  go_loopw [64] (fun i wr => wr = W5 ∧ ∃ j : Nat, j ≤ 4 ∧ i = .int .i64 (j : Int) ∧ ∀ x, x < j → okV (nth4 v0 v1 v2 v3 x)) (fun i _ => 4 - (intOf i).toNat)
  case atStart => exact ⟨rfl, 0, by omega, rfl, fun x hx => by omega⟩
  case round =>
    obtain ⟨rfl, j, hj, rfl, hall⟩ := hrel
    by_cases hj4 : j < 4
    · have cj := HVJ.out j hj4
      obtain ⟨vj, hvj⟩ : ∃ v, nth4 v0 v1 v2 v3 j = v := ⟨_, rfl⟩
      have HVj := Lib.hid hvj
      have HALL := Lib.hid hall
      rw [hvj] at cj
      clear hall hvj
      by_cases hsm : okV vj
      · obtain ⟨hs1, hs2⟩ := hsm
        have e1 : decide (vj < 0) = false := by simp; omega
        have e2 : decide (281474976710656 ≤ vj) = false := by simp; omega
        go_wp2_with fail
        go_roundw
        case rel =>
          refine ⟨trivial, j + 1, by omega, by go_num, fun x hx => ?_⟩
          by_cases hxj : x = j
          · subst hxj; rw [HVj.out]; exact ⟨hs1, hs2⟩
          · exact HALL.out x (by omega)
        case measure => simp [intOf]; omega
      · have HN := Lib.hid (readHd_big (k := k) (n := 256 * m) HVV.out (by rw [HVj.out]; exact hsm))
        unfold okV at hsm
        have hbF : Turn [w.heap.size] wr ((((wr.setCell ⟨w.heap.size, 0, none⟩ (.int .i64 0)).setCell ⟨w.heap.size, 1, none⟩ (.int .i64 0)).setCell ⟨w.heap.size, 2, none⟩ (.int .i64 0)).setCell ⟨w.heap.size, 3, none⟩ (.int .i64 0)) :=
          ((((Turn.refl [w.heap.size] wr).setCell (.inl (by simp)) _).setCell (.inl (by simp)) _).setCell (.inl (by simp)) _).setCell (.inl (by simp)) _
        have HBF := Lib.hid hbF
        clear hbF
        by_cases hneg : vj < 0
        · have e1 : decide (vj < 0) = true := by simpa using hneg
          go_wp2_with fail
          refine bodyPost_ret (v := .tuple #[.agg (hcells Hd.nil), .bool false]) (by simp [results, Tryz.f80, go_sem, c0, c1, c2, c3]; rfl) rfl ⟨by rw [HG.out.2, HN.out], ⟨HP5.out.1.vol.turn HBF.out (fun i hi => by have := HLF.out i hi; simp; omega), HP5.out.1.tab.turn HBF.out (by simp; omega), HP5.out.1.off⟩, HP5.out.2.trans HBF.out (fun i hi => by simp at hi; subst hi; exact .inr (Nat.le_refl _)), Blk.turn HD5.out HBF.out (by simp; omega)⟩
        · have e1 : decide (vj < 0) = false := by simpa using hneg
          have e2 : decide (281474976710656 ≤ vj) = true := by simp; omega
          go_wp2_with fail
          refine bodyPost_ret (v := .tuple #[.agg (hcells Hd.nil), .bool false]) (by simp [results, Tryz.f80, go_sem, c0, c1, c2, c3]; rfl) rfl ⟨by rw [HG.out.2, HN.out], ⟨HP5.out.1.vol.turn HBF.out (fun i hi => by have := HLF.out i hi; simp; omega), HP5.out.1.tab.turn HBF.out (by simp; omega), HP5.out.1.off⟩, HP5.out.2.trans HBF.out (fun i hi => by simp at hi; subst hi; exact .inr (Nat.le_refl _)), Blk.turn HD5.out HBF.out (by simp; omega)⟩
    · obtain rfl : j = 4 := by omega
      obtain ⟨H, hsm, rfl, rfl, rfl, rfl, hrd⟩ := readHd_fit (k := k) (n := 256 * m) HG.out.1 HVV.out hall
      have HRD := Lib.hid hrd
      clear hrd hall HVJ
      obtain ⟨hm1, hm2, hm3, hm4⟩ := hsm
      have hbF : Turn [w.heap.size] wr (((((wr.setCell ⟨w.heap.size, 0, none⟩ (.int .i64 (H.num : Int))).setCell ⟨w.heap.size, 1, none⟩ (.int .i64 (H.first : Int))).setCell ⟨w.heap.size, 2, none⟩ (.int .i64 (H.beg : Int))).setCell ⟨w.heap.size, 3, none⟩ (.int .i64 (H.en : Int))).drew) :=
          (((((Turn.refl [w.heap.size] wr).setCell (.inl (by simp)) _).setCell (.inl (by simp)) _).setCell (.inl (by simp)) _).setCell (.inl (by simp)) _).drew
      have HBF := Lib.hid hbF
      clear hbF
      have hfit : hdFits H k (256 * m) = (((H.num : Int).tmod 2 == (k : Int)) && decide ((H.beg : Int) ≤ (H.en : Int)) && decide ((H.en : Int) ≤ (H.beg : Int) + (256 * (m : Int)))) := by
        unfold hdFits
        rw [show (H.num : Int).tmod 2 = ((H.num % 2 : Nat) : Int) from rfl]
        congr 1
        · congr 1
          · rw [Bool.eq_iff_iff, beq_iff_eq, beq_iff_eq]; omega
          · rw [decide_eq_decide]; omega
        · rw [decide_eq_decide]; omega
      have HFI := Lib.hid hfit
      clear hfit
      obtain ⟨q1, hq1⟩ : ∃ q, ((H.num : Int).tmod 2 == (k : Int)) = q := ⟨_, rfl⟩
      rw [hq1] at HFI
      cases q1 with
      | false =>
        go_wp2_with fail
        refine startH (S := (fun w' => w'.cell? ⟨w.heap.size, 0, none⟩ = some (Value.int .i64 (H.num : Int)) ∧ w'.cell? ⟨w.heap.size, 1, none⟩ = some (Value.int .i64 (H.first : Int)) ∧ w'.cell? ⟨w.heap.size, 2, none⟩ = some (Value.int .i64 (H.beg : Int)) ∧ w'.cell? ⟨w.heap.size, 3, none⟩ = some (Value.int .i64 (H.en : Int)))) 25 (by kernel_rfl) (by kernel_rfl) ⟨by simpa using c0, by simpa using c1, by simpa using c2, by simpa using c3⟩ (fun hHeld => ?_)
        simp only [List.replicate_succ, List.replicate_zero]
        refine takeH (i := 0) (v := .agg #[.int .i64 (H.num : Int), .int .i64 (H.first : Int), .int .i64 (H.beg : Int), .int .i64 (H.en : Int)]) rfl rfl (by kernel_rfl) (by kernel_rfl) (by kernel_rfl) (fun _ _ _ h => h) (Or.inl ⟨rfl, by intro w' hSw; generalize hE : Act.eval _ = ρ; have e6 : ρ (.tmp 6) = .pointer (some ⟨w.heap.size, 0, none⟩) := (by rw [← hE]; rfl); clear hE; go_simp⟩) hHeld ?_
        simp only [List.set_cons_zero, List.set_cons_succ]
        refine takeH (i := 1) (v := .pointer (some ⟨w.heap.size, 0, none⟩)) rfl rfl (by kernel_rfl) (by kernel_rfl) (by kernel_rfl) (fun _ _ _ h => h) (Or.inl ⟨rfl, by intro w' hSw; generalize hE : Act.eval _ = ρ; have e6 : ρ (.tmp 6) = .pointer (some ⟨w.heap.size, 0, none⟩) := (by rw [← hE]; rfl); clear hE; go_simp⟩) hHeld ?_
        simp only [List.set_cons_zero, List.set_cons_succ]
        refine takeH (i := 2) (v := .int .i64 (H.num : Int)) rfl rfl (by kernel_rfl) (by kernel_rfl) (by kernel_rfl) (fun _ _ _ h => h) (Or.inl ⟨rfl, by intro w' hSw; generalize hE : Act.eval _ = ρ; have e77 : ρ (.tmp 77) = .pointer (some ⟨w.heap.size, 0, none⟩) := (by rw [← hE]; rfl); clear hE; go_simp⟩) hHeld ?_
        simp only [List.set_cons_zero, List.set_cons_succ]
        refine takeH (i := 3) (v := .int .i64 ((H.num : Int).tmod 2)) rfl rfl (by kernel_rfl) (by kernel_rfl) (by kernel_rfl) (fun _ _ _ h => h) (Or.inl ⟨rfl, by intro w' hSw; generalize hE : Act.eval _ = ρ; have e78 : ρ (.tmp 78) = .int .i64 (H.num : Int) := (by rw [← hE]; rfl); have ec : ρ (.const (.int .i64 2)) = .int .i64 2 := (by rw [← hE]; rfl); clear hE; go_simp⟩) hHeld ?_
        simp only [List.set_cons_zero, List.set_cons_succ]
        refine takeH (i := 4) (v := .int .i64 (k : Int)) rfl rfl (by kernel_rfl) (by kernel_rfl) (by kernel_rfl) (fun _ _ _ h => h) (Or.inl ⟨rfl, fun _ _ => rfl⟩) hHeld ?_
        simp only [List.set_cons_zero, List.set_cons_succ]
        refine takeH (i := 5) (v := .bool false) rfl rfl (by kernel_rfl) (by kernel_rfl) (by kernel_rfl) (fun _ _ _ h => h) (Or.inl ⟨rfl, by intro w' hSw; generalize hE : Act.eval _ = ρ; have e79 : ρ (.tmp 79) = .int .i64 ((H.num : Int).tmod 2) := (by rw [← hE]; rfl); have e80 : ρ (.tmp 80) = .int .i64 (k : Int) := (by rw [← hE]; rfl); clear hE; go_simp⟩) hHeld ?_
        simp only [List.set_cons_zero, List.set_cons_succ]
        refine takeH (i := 6) (v := .bool false) rfl rfl (by kernel_rfl) (by kernel_rfl) (by kernel_rfl) (fun _ _ _ h => h) (Or.inl ⟨rfl, fun _ _ => rfl⟩) hHeld ?_
        simp only [List.set_cons_zero, List.set_cons_succ]
        refine takeH (i := 7) (v := undef) rfl rfl (by kernel_rfl) (by kernel_rfl) (by kernel_rfl) (fun _ _ _ h => h) (Or.inr ⟨rfl, rfl⟩) hHeld ?_
        simp only [List.set_cons_zero, List.set_cons_succ]
        refine takeH (i := 8) (v := undef) rfl rfl (by kernel_rfl) (by kernel_rfl) (by kernel_rfl) (fun _ _ _ h => h) (Or.inr ⟨rfl, rfl⟩) hHeld ?_
        simp only [List.set_cons_zero, List.set_cons_succ]
        refine takeH (i := 9) (v := undef) rfl rfl (by kernel_rfl) (by kernel_rfl) (by kernel_rfl) (fun _ _ _ h => h) (Or.inr ⟨rfl, rfl⟩) hHeld ?_
        simp only [List.set_cons_zero, List.set_cons_succ]
        refine takeH (i := 10) (v := undef) rfl rfl (by kernel_rfl) (by kernel_rfl) (by kernel_rfl) (fun _ _ _ h => h) (Or.inr ⟨rfl, rfl⟩) hHeld ?_
        simp only [List.set_cons_zero, List.set_cons_succ]
        refine takeH (i := 11) (v := undef) rfl rfl (by kernel_rfl) (by kernel_rfl) (by kernel_rfl) (fun _ _ _ h => h) (Or.inr ⟨rfl, rfl⟩) hHeld ?_
        simp only [List.set_cons_zero, List.set_cons_succ]
        refine takeH (i := 12) (v := .bool false) rfl rfl (by kernel_rfl) (by kernel_rfl) (by kernel_rfl) (fun _ _ _ h => h) (Or.inl ⟨rfl, by intro w' hSw; generalize hE : Act.eval _ = ρ; have e82 : ρ (.tmp 82) = .bool false := (by rw [← hE]; rfl); have e87 : ρ (.tmp 87) = undef := (by rw [← hE]; rfl); have ec : ρ (.const (.bool false)) = .bool false := (by rw [← hE]; rfl); clear hE; go_simp⟩) hHeld ?_
        simp only [List.set_cons_zero, List.set_cons_succ]
        refine takeH (i := 13) (v := .bool false) rfl rfl (by kernel_rfl) (by kernel_rfl) (by kernel_rfl) (fun _ _ _ h => h) (Or.inl ⟨rfl, fun _ _ => rfl⟩) hHeld ?_
        simp only [List.set_cons_zero, List.set_cons_succ]
        refine takeH (i := 14) (v := undef) rfl rfl (by kernel_rfl) (by kernel_rfl) (by kernel_rfl) (fun _ _ _ h => h) (Or.inr ⟨rfl, rfl⟩) hHeld ?_
        simp only [List.set_cons_zero, List.set_cons_succ]
        refine takeH (i := 15) (v := undef) rfl rfl (by kernel_rfl) (by kernel_rfl) (by kernel_rfl) (fun _ _ _ h => h) (Or.inr ⟨rfl, rfl⟩) hHeld ?_
        simp only [List.set_cons_zero, List.set_cons_succ]
        refine takeH (i := 16) (v := undef) rfl rfl (by kernel_rfl) (by kernel_rfl) (by kernel_rfl) (fun _ _ _ h => h) (Or.inr ⟨rfl, rfl⟩) hHeld ?_
        simp only [List.set_cons_zero, List.set_cons_succ]
        refine takeH (i := 17) (v := undef) rfl rfl (by kernel_rfl) (by kernel_rfl) (by kernel_rfl) (fun _ _ _ h => h) (Or.inr ⟨rfl, rfl⟩) hHeld ?_
        simp only [List.set_cons_zero, List.set_cons_succ]
        refine takeH (i := 18) (v := undef) rfl rfl (by kernel_rfl) (by kernel_rfl) (by kernel_rfl) (fun _ _ _ h => h) (Or.inr ⟨rfl, rfl⟩) hHeld ?_
        simp only [List.set_cons_zero, List.set_cons_succ]
        refine takeH (i := 19) (v := undef) rfl rfl (by kernel_rfl) (by kernel_rfl) (by kernel_rfl) (fun _ _ _ h => h) (Or.inr ⟨rfl, rfl⟩) hHeld ?_
        simp only [List.set_cons_zero, List.set_cons_succ]
        refine takeH (i := 20) (v := undef) rfl rfl (by kernel_rfl) (by kernel_rfl) (by kernel_rfl) (fun _ _ _ h => h) (Or.inr ⟨rfl, rfl⟩) hHeld ?_
        simp only [List.set_cons_zero, List.set_cons_succ]
        refine takeH (i := 21) (v := undef) rfl rfl (by kernel_rfl) (by kernel_rfl) (by kernel_rfl) (fun _ _ _ h => h) (Or.inr ⟨rfl, rfl⟩) hHeld ?_
        simp only [List.set_cons_zero, List.set_cons_succ]
        refine takeH (i := 22) (v := .bool false) rfl rfl (by kernel_rfl) (by kernel_rfl) (by kernel_rfl) (fun _ _ _ h => h) (Or.inl ⟨rfl, by intro w' hSw; generalize hE : Act.eval _ = ρ; have e89 : ρ (.tmp 89) = .bool false := (by rw [← hE]; rfl); have e97 : ρ (.tmp 97) = undef := (by rw [← hE]; rfl); have ec : ρ (.const (.bool false)) = .bool false := (by rw [← hE]; rfl); clear hE; go_simp⟩) hHeld ?_
        simp only [List.set_cons_zero, List.set_cons_succ]
        refine wpAnyH_ready (rs := [23]) (by kernel_rfl) (by simp) ?_
        refine AllReadyH.cons (nthL_get rfl) (fun K hK => ?_) AllReadyH.nil
        go_simp
        refine hK.out _ _ ?_ (fun hHeld => ?_)
        · first | with_reducible exact keep4d c0 c1 c2 c3 | with_reducible exact keep4n c0 c1 c2 c3
        clear hK K
        simp only [List.setIfInBounds_toArray, List.set_cons_zero, List.set_cons_succ]
        refine takeH (i := 24) (v := .bool false) rfl rfl (by kernel_rfl) (by kernel_rfl) (by kernel_rfl) (fun _ _ _ h => h) (Or.inl ⟨rfl, fun _ _ => rfl⟩) hHeld ?_
        simp only [List.set_cons_zero, List.set_cons_succ]
        refine wpAnyH_done (by kernel_rfl) ?_ _
        go_wp2_with fail
        refine bodyPost_ret (v := .tuple #[.agg (hcells H), .bool false]) (by simp [results, Tryz.f80, go_sem, c0, c1, c2, c3]; rfl) rfl ⟨by rw [HG.out.2, HRD.out, HFI.out]; rfl, ⟨HP5.out.1.vol.turn HBF.out (fun i hi => by have := HLF.out i hi; simp; omega), HP5.out.1.tab.turn HBF.out (by simp; omega), HP5.out.1.off⟩, HP5.out.2.trans HBF.out (fun i hi => by simp at hi; subst hi; exact .inr (Nat.le_refl _)), Blk.turn HD5.out HBF.out (by simp; omega)⟩
      | true =>
        obtain ⟨q2, hq2⟩ : ∃ q, decide ((H.beg : Int) ≤ (H.en : Int)) = q := ⟨_, rfl⟩
        rw [hq2] at HFI
        have hq2n : decide (H.beg ≤ H.en) = q2 := by rw [← hq2, decide_eq_decide]; omega
        cases q2 with
        | false =>
          go_wp2_with fail
          refine startH (S := (fun w' => w'.cell? ⟨w.heap.size, 0, none⟩ = some (Value.int .i64 (H.num : Int)) ∧ w'.cell? ⟨w.heap.size, 1, none⟩ = some (Value.int .i64 (H.first : Int)) ∧ w'.cell? ⟨w.heap.size, 2, none⟩ = some (Value.int .i64 (H.beg : Int)) ∧ w'.cell? ⟨w.heap.size, 3, none⟩ = some (Value.int .i64 (H.en : Int)))) 25 (by kernel_rfl) (by kernel_rfl) ⟨by simpa using c0, by simpa using c1, by simpa using c2, by simpa using c3⟩ (fun hHeld => ?_)
          simp only [List.replicate_succ, List.replicate_zero]
          refine takeH (i := 0) (v := .agg #[.int .i64 (H.num : Int), .int .i64 (H.first : Int), .int .i64 (H.beg : Int), .int .i64 (H.en : Int)]) rfl rfl (by kernel_rfl) (by kernel_rfl) (by kernel_rfl) (fun _ _ _ h => h) (Or.inl ⟨rfl, by intro w' hSw; generalize hE : Act.eval _ = ρ; have e6 : ρ (.tmp 6) = .pointer (some ⟨w.heap.size, 0, none⟩) := (by rw [← hE]; rfl); clear hE; go_simp⟩) hHeld ?_
          simp only [List.set_cons_zero, List.set_cons_succ]
          refine takeH (i := 1) (v := .pointer (some ⟨w.heap.size, 0, none⟩)) rfl rfl (by kernel_rfl) (by kernel_rfl) (by kernel_rfl) (fun _ _ _ h => h) (Or.inl ⟨rfl, by intro w' hSw; generalize hE : Act.eval _ = ρ; have e6 : ρ (.tmp 6) = .pointer (some ⟨w.heap.size, 0, none⟩) := (by rw [← hE]; rfl); clear hE; go_simp⟩) hHeld ?_
          simp only [List.set_cons_zero, List.set_cons_succ]
          refine takeH (i := 2) (v := .int .i64 (H.num : Int)) rfl rfl (by kernel_rfl) (by kernel_rfl) (by kernel_rfl) (fun _ _ _ h => h) (Or.inl ⟨rfl, by intro w' hSw; generalize hE : Act.eval _ = ρ; have e77 : ρ (.tmp 77) = .pointer (some ⟨w.heap.size, 0, none⟩) := (by rw [← hE]; rfl); clear hE; go_simp⟩) hHeld ?_
          simp only [List.set_cons_zero, List.set_cons_succ]
          refine takeH (i := 3) (v := .int .i64 ((H.num : Int).tmod 2)) rfl rfl (by kernel_rfl) (by kernel_rfl) (by kernel_rfl) (fun _ _ _ h => h) (Or.inl ⟨rfl, by intro w' hSw; generalize hE : Act.eval _ = ρ; have e78 : ρ (.tmp 78) = .int .i64 (H.num : Int) := (by rw [← hE]; rfl); have ec : ρ (.const (.int .i64 2)) = .int .i64 2 := (by rw [← hE]; rfl); clear hE; go_simp⟩) hHeld ?_
          simp only [List.set_cons_zero, List.set_cons_succ]
          refine takeH (i := 4) (v := .int .i64 (k : Int)) rfl rfl (by kernel_rfl) (by kernel_rfl) (by kernel_rfl) (fun _ _ _ h => h) (Or.inl ⟨rfl, fun _ _ => rfl⟩) hHeld ?_
          simp only [List.set_cons_zero, List.set_cons_succ]
          refine takeH (i := 5) (v := .bool true) rfl rfl (by kernel_rfl) (by kernel_rfl) (by kernel_rfl) (fun _ _ _ h => h) (Or.inl ⟨rfl, by intro w' hSw; generalize hE : Act.eval _ = ρ; have e79 : ρ (.tmp 79) = .int .i64 ((H.num : Int).tmod 2) := (by rw [← hE]; rfl); have e80 : ρ (.tmp 80) = .int .i64 (k : Int) := (by rw [← hE]; rfl); clear hE; go_simp⟩) hHeld ?_
          simp only [List.set_cons_zero, List.set_cons_succ]
          refine takeH (i := 6) (v := .bool true) rfl rfl (by kernel_rfl) (by kernel_rfl) (by kernel_rfl) (fun _ _ _ h => h) (Or.inl ⟨rfl, fun _ _ => rfl⟩) hHeld ?_
          simp only [List.set_cons_zero, List.set_cons_succ]
          refine takeH (i := 7) (v := .pointer (some ⟨w.heap.size, 2, none⟩)) rfl rfl (by kernel_rfl) (by kernel_rfl) (by kernel_rfl) (fun _ _ _ h => h) (Or.inl ⟨rfl, by intro w' hSw; generalize hE : Act.eval _ = ρ; have e6 : ρ (.tmp 6) = .pointer (some ⟨w.heap.size, 0, none⟩) := (by rw [← hE]; rfl); clear hE; go_simp⟩) hHeld ?_
          simp only [List.set_cons_zero, List.set_cons_succ]
          refine takeH (i := 8) (v := .int .i64 (H.beg : Int)) rfl rfl (by kernel_rfl) (by kernel_rfl) (by kernel_rfl) (fun _ _ _ h => h) (Or.inl ⟨rfl, by intro w' hSw; generalize hE : Act.eval _ = ρ; have e83 : ρ (.tmp 83) = .pointer (some ⟨w.heap.size, 2, none⟩) := (by rw [← hE]; rfl); clear hE; go_simp⟩) hHeld ?_
          simp only [List.set_cons_zero, List.set_cons_succ]
          refine takeH (i := 9) (v := .pointer (some ⟨w.heap.size, 3, none⟩)) rfl rfl (by kernel_rfl) (by kernel_rfl) (by kernel_rfl) (fun _ _ _ h => h) (Or.inl ⟨rfl, by intro w' hSw; generalize hE : Act.eval _ = ρ; have e6 : ρ (.tmp 6) = .pointer (some ⟨w.heap.size, 0, none⟩) := (by rw [← hE]; rfl); clear hE; go_simp⟩) hHeld ?_
          simp only [List.set_cons_zero, List.set_cons_succ]
          refine takeH (i := 10) (v := .int .i64 (H.en : Int)) rfl rfl (by kernel_rfl) (by kernel_rfl) (by kernel_rfl) (fun _ _ _ h => h) (Or.inl ⟨rfl, by intro w' hSw; generalize hE : Act.eval _ = ρ; have e85 : ρ (.tmp 85) = .pointer (some ⟨w.heap.size, 3, none⟩) := (by rw [← hE]; rfl); clear hE; go_simp⟩) hHeld ?_
          simp only [List.set_cons_zero, List.set_cons_succ]
          refine takeH (i := 11) (v := .bool false) rfl rfl (by kernel_rfl) (by kernel_rfl) (by kernel_rfl) (fun _ _ _ h => h) (Or.inl ⟨rfl, by intro w' hSw; generalize hE : Act.eval _ = ρ; have e84 : ρ (.tmp 84) = .int .i64 (H.beg : Int) := (by rw [← hE]; rfl); have e86 : ρ (.tmp 86) = .int .i64 (H.en : Int) := (by rw [← hE]; rfl); clear hE; go_simp⟩) hHeld ?_
          simp only [List.set_cons_zero, List.set_cons_succ]
          refine takeH (i := 12) (v := .bool false) rfl rfl (by kernel_rfl) (by kernel_rfl) (by kernel_rfl) (fun _ _ _ h => h) (Or.inl ⟨rfl, by intro w' hSw; generalize hE : Act.eval _ = ρ; have e82 : ρ (.tmp 82) = .bool true := (by rw [← hE]; rfl); have e87 : ρ (.tmp 87) = .bool false := (by rw [← hE]; rfl); have ec : ρ (.const (.bool false)) = .bool false := (by rw [← hE]; rfl); clear hE; go_simp⟩) hHeld ?_
          simp only [List.set_cons_zero, List.set_cons_succ]
          refine takeH (i := 13) (v := .bool false) rfl rfl (by kernel_rfl) (by kernel_rfl) (by kernel_rfl) (fun _ _ _ h => h) (Or.inl ⟨rfl, fun _ _ => rfl⟩) hHeld ?_
          simp only [List.set_cons_zero, List.set_cons_succ]
          refine takeH (i := 14) (v := undef) rfl rfl (by kernel_rfl) (by kernel_rfl) (by kernel_rfl) (fun _ _ _ h => h) (Or.inr ⟨rfl, rfl⟩) hHeld ?_
          simp only [List.set_cons_zero, List.set_cons_succ]
          refine takeH (i := 15) (v := undef) rfl rfl (by kernel_rfl) (by kernel_rfl) (by kernel_rfl) (fun _ _ _ h => h) (Or.inr ⟨rfl, rfl⟩) hHeld ?_
          simp only [List.set_cons_zero, List.set_cons_succ]
          refine takeH (i := 16) (v := undef) rfl rfl (by kernel_rfl) (by kernel_rfl) (by kernel_rfl) (fun _ _ _ h => h) (Or.inr ⟨rfl, rfl⟩) hHeld ?_
          simp only [List.set_cons_zero, List.set_cons_succ]
          refine takeH (i := 17) (v := undef) rfl rfl (by kernel_rfl) (by kernel_rfl) (by kernel_rfl) (fun _ _ _ h => h) (Or.inr ⟨rfl, rfl⟩) hHeld ?_
          simp only [List.set_cons_zero, List.set_cons_succ]
          refine takeH (i := 18) (v := undef) rfl rfl (by kernel_rfl) (by kernel_rfl) (by kernel_rfl) (fun _ _ _ h => h) (Or.inr ⟨rfl, rfl⟩) hHeld ?_
          simp only [List.set_cons_zero, List.set_cons_succ]
          refine takeH (i := 19) (v := undef) rfl rfl (by kernel_rfl) (by kernel_rfl) (by kernel_rfl) (fun _ _ _ h => h) (Or.inr ⟨rfl, rfl⟩) hHeld ?_
          simp only [List.set_cons_zero, List.set_cons_succ]
          refine takeH (i := 20) (v := undef) rfl rfl (by kernel_rfl) (by kernel_rfl) (by kernel_rfl) (fun _ _ _ h => h) (Or.inr ⟨rfl, rfl⟩) hHeld ?_
          simp only [List.set_cons_zero, List.set_cons_succ]
          refine takeH (i := 21) (v := undef) rfl rfl (by kernel_rfl) (by kernel_rfl) (by kernel_rfl) (fun _ _ _ h => h) (Or.inr ⟨rfl, rfl⟩) hHeld ?_
          simp only [List.set_cons_zero, List.set_cons_succ]
          refine takeH (i := 22) (v := .bool false) rfl rfl (by kernel_rfl) (by kernel_rfl) (by kernel_rfl) (fun _ _ _ h => h) (Or.inl ⟨rfl, by intro w' hSw; generalize hE : Act.eval _ = ρ; have e89 : ρ (.tmp 89) = .bool false := (by rw [← hE]; rfl); have e97 : ρ (.tmp 97) = undef := (by rw [← hE]; rfl); have ec : ρ (.const (.bool false)) = .bool false := (by rw [← hE]; rfl); clear hE; go_simp⟩) hHeld ?_
          simp only [List.set_cons_zero, List.set_cons_succ]
          refine wpAnyH_ready (rs := [23]) (by kernel_rfl) (by simp) ?_
          refine AllReadyH.cons (nthL_get rfl) (fun K hK => ?_) AllReadyH.nil
          go_simp
          refine hK.out _ _ ?_ (fun hHeld => ?_)
          · first | with_reducible exact keep4d c0 c1 c2 c3 | with_reducible exact keep4n c0 c1 c2 c3
          clear hK K
          simp only [List.setIfInBounds_toArray, List.set_cons_zero, List.set_cons_succ]
          refine takeH (i := 24) (v := .bool false) rfl rfl (by kernel_rfl) (by kernel_rfl) (by kernel_rfl) (fun _ _ _ h => h) (Or.inl ⟨rfl, fun _ _ => rfl⟩) hHeld ?_
          simp only [List.set_cons_zero, List.set_cons_succ]
          refine wpAnyH_done (by kernel_rfl) ?_ _
          go_wp2_with fail
          refine bodyPost_ret (v := .tuple #[.agg (hcells H), .bool false]) (by simp [results, Tryz.f80, go_sem, c0, c1, c2, c3]; rfl) rfl ⟨by rw [HG.out.2, HRD.out, HFI.out]; rfl, ⟨HP5.out.1.vol.turn HBF.out (fun i hi => by have := HLF.out i hi; simp; omega), HP5.out.1.tab.turn HBF.out (by simp; omega), HP5.out.1.off⟩, HP5.out.2.trans HBF.out (fun i hi => by simp at hi; subst hi; exact .inr (Nat.le_refl _)), Blk.turn HD5.out HBF.out (by simp; omega)⟩
        | true =>
          obtain ⟨q3, hq3⟩ : ∃ q, decide ((H.en : Int) ≤ (H.beg : Int) + (256 * (m : Int))) = q := ⟨_, rfl⟩
          rw [hq3] at HFI
          go_wp2_with fail
          go_region_held3 (fun w' => w'.cell? ⟨w.heap.size, 0, none⟩ = some (Value.int .i64 (H.num : Int)) ∧ w'.cell? ⟨w.heap.size, 1, none⟩ = some (Value.int .i64 (H.first : Int)) ∧ w'.cell? ⟨w.heap.size, 2, none⟩ = some (Value.int .i64 (H.beg : Int)) ∧ w'.cell? ⟨w.heap.size, 3, none⟩ = some (Value.int .i64 (H.en : Int)))
            (first | with_reducible exact keep4d c0 c1 c2 c3 | with_reducible exact keep4n c0 c1 c2 c3 | go_keep)
            (first
              | (go_at_call 66; refine (area_any (HP5.out.1.below (below_drewN (n := 1) (Below.refl _ _))).vol hl).mono ?_; rintro e w' ⟨rfl, rfl⟩))
          go_wp2_with fail
          have hml := HP5.out.1.vol.wf.len
          rw [hl] at hml
          have hwr : IntKind.i64.wrap ((H.beg : Int) + 256 * (m : Int)) = (H.beg : Int) + 256 * (m : Int) := by rw [IntKind.wrap_i64]; omega
          refine bodyPost_ret (v := .tuple #[.agg (hcells H), .bool q3]) (by simp [results, Tryz.f80, go_sem, c0, c1, c2, c3, hwr, hq3]; rfl) rfl ⟨by rw [HG.out.2, HRD.out, HFI.out]; rfl, ⟨HP5.out.1.vol.turn HBF.out (fun i hi => by have := HLF.out i hi; simp; omega), HP5.out.1.tab.turn HBF.out (by simp; omega), HP5.out.1.off⟩, HP5.out.2.trans HBF.out (fun i hi => by simp at hi; subst hi; exact .inr (Nat.le_refl _)), Blk.turn HD5.out HBF.out (by simp; omega)⟩
end Go.Proofs.YtfdnpchbbngpjaaGreat
