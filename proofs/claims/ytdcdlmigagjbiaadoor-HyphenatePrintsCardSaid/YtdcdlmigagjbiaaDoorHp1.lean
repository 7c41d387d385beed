/- The law Prints. -/
import Derived.Test.YtdcdlmigagjbiaaDoorHs1
import Derived.Test.YtdcdlmigagjbiaaDoorHop
namespace Go.Proofs.YtdcdlmigagjbiaaDoor
open Go.RowKit Go.Maps
theorem dot_len (b : Bool) : (dotB b).length ≤ 1 := by cases b <;> simp [dotB]
theorem printP_tlen {P : Pat} {t : List UInt8} (h : printP P = (0, t)) : t.length ≤ 5 * P.levels.length + 2 := by
  have hlv := printP_lv h
  obtain ⟨h1, h2, h3, h4⟩ := printP_zero h
  have hb := body_len P.levels (ptsI P.letters) P.levels.length (Nat.le_refl _)
  rw [List.take_length] at hb
  unfold printP at h
  split at h
  · cases h
  split at h
  · cases h
  split at h
  · cases h
  split at h
  · cases h
  split at h
  · cases h
  split at h
  · cases h
  injection h with _ h
  rw [← h, List.length_append, List.length_append]
  have := dot_len P.beg
  have := dot_len P.fin
  omega
set_option maxRecDepth 100000 in
set_option maxHeartbeats 1600000 in
theorem prints_law (P : Pat) (pv : Value) (w : World) (hv : Ints w pv P.levels) : Calls Tryd.prog 4 #[patV P pv] w (KnPost w) := by
  obtain ⟨pao, pcap, rfl⟩ := hv.shape
  unfold patV
  have HV := Lib.hid hv
  have HBK := Lib.hid (Blk.new w 33 #[.string ⟨P.letters.toArray⟩, .slice pao P.levels.length pcap, .bool P.beg, .bool P.fin])
  have HBW := Lib.hid ((Below.refl w.heap.size w).alloc (Nat.le_refl _) (.cells #[.string ⟨P.letters.toArray⟩, .slice pao P.levels.length pcap, .bool P.beg, .bool P.fin] 33))
  obtain ⟨W, hW⟩ : ∃ W, w.alloc (.cells #[.string ⟨P.letters.toArray⟩, .slice pao P.levels.length pcap, .bool P.beg, .bool P.fin] 33) = W := ⟨_, rfl⟩
  rw [hW] at HBK HBW
  have hws := HBW.out.size
  clear hv
  by_cases h200 : 200 < P.letters.length
  · have d1 : decide (200 < P.letters.length) = true := by simp [h200]
    go_enter Tryd.func4, Tryd.ntmps4
    go_wp2_with (first
      | (go_at_call 12; have HB0 := HB1; refine (known_any _).mono ?_; unfold KnPost; rintro e w2 ⟨rfl, hb2⟩; have HB2 := Lib.hid hb2; clear hb2)
      | (go_at_call 12; refine (known_any _).mono ?_; unfold KnPost; rintro e w1 ⟨rfl, hb1⟩; have HB1 := Lib.hid hb1; obtain ⟨c0, c1, c2, c3⟩ := (HBK.out.below hb1 HBK.out.lt).four; clear hb1))
    refine bodyPost_ret (v := .bool true) (by simp [results, Tryd.f4, go_sem]) rfl ⟨rfl, HBW.out.trans ((HB1.out.trans (HB2.out.mono HB1.out.size)).mono hws)⟩
  have d1 : decide (200 < P.letters.length) = false := by simp [h200]
  by_cases h60 : 60 < P.levels.length
  · have d2 : decide (60 < P.levels.length) = true := by simp [h60]
    go_enter Tryd.func4, Tryd.ntmps4
    go_wp2_with (first
      | (go_at_call 12; have HB0 := HB1; refine (known_any _).mono ?_; unfold KnPost; rintro e w2 ⟨rfl, hb2⟩; have HB2 := Lib.hid hb2; clear hb2)
      | (go_at_call 12; refine (known_any _).mono ?_; unfold KnPost; rintro e w1 ⟨rfl, hb1⟩; have HB1 := Lib.hid hb1; obtain ⟨c0, c1, c2, c3⟩ := (HBK.out.below hb1 HBK.out.lt).four; clear hb1))
    refine bodyPost_ret (v := .bool true) (by simp [results, Tryd.f4, go_sem]) rfl ⟨rfl, HBW.out.trans ((HB1.out.trans (HB2.out.mono HB1.out.size)).mono hws)⟩
  have d2 : decide (60 < P.levels.length) = false := by simp [h60]
  have HP1 := Lib.hid (fun (w : World) (h : Ints w (.slice pao P.levels.length pcap) P.levels) => print_any P (.slice pao P.levels.length pcap) (by omega) (by omega) w h)
  have HP2 := Lib.hid (fun (w : World) (h : Ints w (.slice pao P.levels.length pcap) P.levels) => print2_any P (.slice pao P.levels.length pcap) (by omega) (by omega) w h)
  unfold PrintPost at HP1 HP2
  have HBACK := Lib.hid (fun t (h : printP P = (0, t)) => print_back h)
  have HTL := Lib.hid (fun t (h : printP P = (0, t)) => printP_tlen h)
  obtain ⟨n, tx, hpr⟩ : ∃ n tx, printP P = (n, tx) := ⟨_, _, rfl⟩
  rw [hpr] at HP1 HP2 HBACK HTL
  clear hpr
  have es : ((⟨tx.toArray⟩ : ByteArray).toList != (⟨tx.toArray⟩ : ByteArray).toList) = false := sne_f rfl
  by_cases hn : n = 0
  · subst hn
    have HPA := Lib.hid (fun w => parse_any tx (by have := HTL.out tx rfl; omega) w)
    unfold ParsePost at HPA
    rw [HBACK.out tx rfl] at HPA
    have HSP := Lib.hid (show sameP P P = true by simp [sameP])
    have hl60 : P.levels.length ≤ 1000000000 := by omega
    go_enter Tryd.func4, Tryd.ntmps4
    go_wp2_with (first
      | (go_at_call 12; refine (known_any _).mono ?_; unfold KnPost; rintro e w1 ⟨rfl, hb1⟩; have HB1 := Lib.hid hb1; have hs1 := hb1.size; obtain ⟨c0, c1, c2, c3⟩ := (HBK.out.below hb1 HBK.out.lt).four; clear hb1)
      | (go_at_call 18; refine (HP1.out _ ((HV.out.below HBW.out).below HB1.out)).mono ?_; rintro e w2 ⟨rfl, hb2⟩; have HB2 := Lib.hid (HB1.out.trans (hb2.mono hs1)); have hs2 := HB2.out.size; obtain ⟨c0, c1, c2, c3⟩ := (HBK.out.below HB2.out HBK.out.lt).four; clear hb2)
      | (go_at_call 19; refine (HP2.out _ ((HV.out.below HBW.out).below HB2.out)).mono ?_; rintro e w3 ⟨rfl, hb3⟩; have HB3 := Lib.hid (HB2.out.trans (hb3.mono hs2)); have hs3 := HB3.out.size; obtain ⟨c0, c1, c2, c3⟩ := (HBK.out.below HB3.out HBK.out.lt).four; clear hb3)
      | (go_at_call 20; refine (HPA.out _).mono ?_; rintro e w4 ⟨qv, rfl, hb4, hr4⟩; unfold patV; obtain ⟨qao, qcap, rfl⟩ := row_slice hr4; have HB4 := Lib.hid (HB3.out.trans (hb4.mono hs3)); have hs4 := HB4.out.size; have HR4 := Lib.hid (Ints.of_owns hr4); obtain ⟨c0, c1, c2, c3⟩ := ((HBK.out.below HB4.out HBK.out.lt).alloc (.cells #[.string ⟨P.letters.toArray⟩, .slice qao P.levels.length qcap, .bool P.beg, .bool P.fin] 33)).four; obtain ⟨q0, q1, q2, q3⟩ := (Blk.new w4 33 #[.string ⟨P.letters.toArray⟩, .slice qao P.levels.length qcap, .bool P.beg, .bool P.fin]).four; clear hb4 hr4)
      | (go_at_call 21; refine (samePat_any P P (.slice pao P.levels.length pcap) (.slice qao P.levels.length qcap) _ (((HV.out.below HBW.out).below HB4.out).below ((Below.refl _ w4).alloc (Nat.le_refl _) _)) (HR4.out.below ((Below.refl _ w4).alloc (Nat.le_refl _) _)) hl60 hl60).mono ?_; unfold BoolPost; rw [HSP.out]; rintro e w5 ⟨rfl, hb5⟩))
    refine bodyPost_ret (v := .bool true) (by simp [results, Tryd.f4, go_sem]) rfl ⟨rfl, HBW.out.trans (((HB4.out.alloc hs4 _).trans (hb5.mono (by simp; omega))).mono hws)⟩
  · have en : (n = 0) = False := by simp [hn]
    go_enter Tryd.func4, Tryd.ntmps4
    go_wp2_with (first
      | (go_at_call 12; refine (known_any _).mono ?_; unfold KnPost; rintro e w1 ⟨rfl, hb1⟩; have HB1 := Lib.hid hb1; have hs1 := hb1.size; obtain ⟨c0, c1, c2, c3⟩ := (HBK.out.below hb1 HBK.out.lt).four; clear hb1)
      | (go_at_call 18; refine (HP1.out _ ((HV.out.below HBW.out).below HB1.out)).mono ?_; rintro e w2 ⟨rfl, hb2⟩; have HB2 := Lib.hid (HB1.out.trans (hb2.mono hs1)); have hs2 := HB2.out.size; obtain ⟨c0, c1, c2, c3⟩ := (HBK.out.below HB2.out HBK.out.lt).four; clear hb2)
      | (go_at_call 19; refine (HP2.out _ ((HV.out.below HBW.out).below HB2.out)).mono ?_; rintro e w3 ⟨rfl, hb3⟩; have HB3 := Lib.hid (HB2.out.trans (hb3.mono hs2)); clear hb3))
    refine bodyPost_ret (v := .bool true) (by simp [results, Tryd.f4, go_sem]) rfl ⟨rfl, HBW.out.trans (HB3.out.mono hws)⟩
theorem prints_row {P : Pat} {v : Value} {w : World} (h : ∃ pv, v = patV P pv ∧ Ints w pv P.levels) : Calls Tryd.prog 4 #[v] w (KnPost w) := by
  obtain ⟨pv, rfl, hv⟩ := h
  exact prints_law P pv w hv
end Go.Proofs.YtdcdlmigagjbiaaDoor
